/-
  seisinref07.Put.
  seisinref07.Id.
-/
import Derived.Test.YtdkanehjahpehaaGreatDoorJTxG
import Derived.Test.YtdkanehjahpehaaGreatDoorJRForm
import Derived.Test.YtdkanehjahpehaaGreatDoorJRTxA

section
namespace Go.Proofs.YtdkanehjahpehaaGreatDoor
open Go.RowKit Go.Shelf
set_option maxRecDepth 100000
attribute [local go_sem ↓] ldIn_of stIn_of alIn_of ldId_of apt22_of

theorem Own8.formN {B : Nat} {w : World} {v : Value} {l : List Int} (h : Own8 B w v l) : ∃ A N c, v = .slice A N c := by
  obtain ⟨A, c, e⟩ := h.form
  exact ⟨A, _, c, e⟩
theorem Own8.lenN {B N c : Nat} {w : World} {A : Option Addr} {l : List Int} (h : Own8 B w (.slice A N c) l) : N = l.length := by
  obtain ⟨A', c', e⟩ := h.form
  simp only [Value.slice.injEq] at e
  exact e.2.1
theorem Own8.kept {B : Nat} {w w' : World} {v : Value} {l : List Int} (h : Own8 B w v l) (hb : Below w.heap.size w w') : Own8 B w' v l := h.fr (Fr.of_below hb) (fun k hk f => by have := (h.lt hk).2; omega)
/-- An append of bytes, its lengths named. -/
theorem app8N {ty : TypeId} {B N c Nu cu : Nat} {w : World} {A Au : Option Addr} {l m : List Int} (h : Own8 B w (.slice A N c) l) (hm : Byt w Au m) (hu : m.length = Nu) (hc : Au = none → cu = 0) (hlen : l.length + m.length ≤ 1000000000) (hB : B ≤ w.heap.size) :
    ∃ A' N' c' w', (APs #[28, 28] ty #[.slice A N c, .slice Au Nu cu]).run Tryz.prog w = .ok (.slice A' N' c') w' ∧ Own8 B w' (.slice A' N' c') (l ++ m) ∧ Fr (fun k => (Value.slice A N c).ownBlock = some k) w w' ∧ Foot w (.slice A N c) (.slice A' N' c') := by
  subst hu
  obtain ⟨v', w', h1, h2, h3, h4⟩ := app8 (ty := ty) h hm (c := cu) (by omega) hB hc
  obtain ⟨A', N', c', rfl⟩ := h2.formN
  exact ⟨A', N', c', w', h1, h2, h3, h4⟩
theorem app8NO {ty : TypeId} {B B' N c Nu cu : Nat} {w : World} {A Au : Option Addr} {l m : List Int} (h : Own8 B w (.slice A N c) l) (hm : Own8 B' w (.slice Au Nu cu) m) (hb : ∀ x ∈ m, 0 ≤ x ∧ x ≤ 255) (hlen : l.length + m.length ≤ 1000000000) (hB : B ≤ w.heap.size) :
    ∃ A' N' c' w', (APs #[28, 28] ty #[.slice A N c, .slice Au Nu cu]).run Tryz.prog w = .ok (.slice A' N' c') w' ∧ Own8 B w' (.slice A' N' c') (l ++ m) ∧ Fr (fun k => (Value.slice A N c).ownBlock = some k) w w' ∧ Foot w (.slice A N c) (.slice A' N' c') := by
  obtain ⟨Ax, cx, e, hby, _, _⟩ := hm.byt hb
  have hN := hm.lenN
  simp only [Value.slice.injEq] at e
  obtain ⟨rfl, _, rfl⟩ := e
  exact app8N h hby hN.symm (fun e => by subst e; exact Own8.nulI hm) hlen hB
theorem app_keep {d : Nat} {w w' : World} {v v' : Value} {t : TypeId} {cs : Array Value} (hdv : v.ownBlock ≠ some d) (hb : Blk w d t cs) (hft : Foot w v v') (hf : Fr (fun k => v.ownBlock = some k) w w') : Blk w' d t cs ∧ v'.ownBlock ≠ some d := by
  refine ⟨hb.fr hf (fun h => hdv h), fun e => ?_⟩
  rcases hft d e with h | h
  · exact hdv h
  · have := hb.lt
    omega
theorem app_below {B B' : Nat} {w w' : World} {v : Value} {l : List Int} (h : Own8 B w v l) (hf : Fr (fun k => v.ownBlock = some k) w w') (hB : B ≤ w.heap.size) (hB' : B' ≤ B) : Below B' w w' :=
  (hf.below hB (fun k hk e => by have := (h.lt e).1; omega)).mono hB'

set_option maxHeartbeats 8000000 in
theorem rput_any (A1 : Option Addr) (c1 : Nat) (A2 : Option Addr) (c2 : Nat) (t : TxD) (w : World) (h : TxAt w A1 A2 t) (hlong : longP t = false) :
    Calls Tryz.prog 53 #[.agg (txV A1 c1 A2 c2 t)] w fun e w' => ∃ v, e = .returned v ∧ Own8 w.heap.size w' v (formTx t) ∧ Below w.heap.size w w' := by
  have b0 := Blk.new w 26 (txV A1 c1 A2 c2 t)
  have B0 : Below w.heap.size w (w.alloc (.cells (txV A1 c1 A2 c2 t) 26)) := (Below.refl _ w).alloc (Nat.le_refl _) _
  obtain ⟨Wz, hW⟩ : ∃ W, w.alloc (.cells (txV A1 c1 A2 c2 t) 26) = W := ⟨_, rfl⟩
  obtain ⟨g, hg⟩ : ∃ g, w.heap.size = g := ⟨_, rfl⟩
  rw [hW] at B0
  rw [hW, hg] at b0
  have hgW : g < Wz.heap.size := b0.lt
  have hT := h.below B0
  have hbox : ∀ X, Below Wz.heap.size Wz X → X.cell? ⟨g, 0, none⟩ = some (.slice A1 t.ins.length c1) ∧ X.cell? ⟨g, 1, none⟩ = some (.slice A2 t.outs.length c2) ∧ X.cell? ⟨g, 2, none⟩ = some (.int .u64 t.fee) ∧ X.cell? ⟨g, 3, none⟩ = some (.int .i64 t.exp) := fun X hX =>
    ⟨(hX.cell (p := ⟨g, 0, none⟩) hgW).trans (b0.cell 0), (hX.cell (p := ⟨g, 1, none⟩) hgW).trans (b0.cell 1), (hX.cell (p := ⟨g, 2, none⟩) hgW).trans (b0.cell 2), (hX.cell (p := ⟨g, 3, none⟩) hgW).trans (b0.cell 3)⟩
  have HW := Lib.hid hW
  have HG := Lib.hid hg
  have HB0 := Lib.hid B0
  have HBOX := Lib.hid hbox
  have HT := Lib.hid hT
  clear hW hg B0 b0 hbox hT hgW
  obtain ⟨⟨hi1, hi2⟩, ⟨ho1, ho2⟩, ⟨he1, he2⟩, hsec⟩ := longP_not hlong
  obtain ⟨hins, houts, hbd⟩ := HT.out
  obtain ⟨ins, outs, fee, exp⟩ := t
  simp only at hi1 hi2 ho1 ho2 he1 he2 hsec hins houts hbd
  have hfl := formTx_len hbd hlong
  have hbi := hbd.ins
  have hbo := hbd.outs
  have hbf := hbd.fee
  simp only at hbi hbo hbf
  obtain ⟨nf, rfl⟩ := nat_of hbf.1
  obtain ⟨ne, rfl⟩ := nat_of he1
  obtain ⟨n1, hn1⟩ : ∃ n, ins.length = n := ⟨_, rfl⟩
  obtain ⟨n2, hn2⟩ : ∃ n, outs.length = n := ⟨_, rfl⟩
  have hform : formTx ⟨ins, outs, (nf : Int), (ne : Int)⟩ = numP n1 ++ ins.flatMap inF ++ numP n2 ++ outs.flatMap outF ++ numP nf ++ numP ne := by
    unfold formTx
    simp only [hn1, hn2, Int.toNat_natCast]
  rw [hform] at hfl ⊢
  rw [hn1] at hi1 hi2
  rw [hn2] at ho1 ho2
  have wn1 : IntKind.u64.wrap (n1 : Int) = n1 := by rw [IntKind.wrap_u64]; omega
  have wn2 : IntKind.u64.wrap (n2 : Int) = n2 := by rw [IntKind.wrap_u64]; omega
  have wne : IntKind.u64.wrap (ne : Int) = ne := by rw [IntKind.wrap_u64]; omega
  obtain ⟨Z, hal, hst⟩ := alst (P := Tryz.prog) (t := 77) iIn zIn
  unfold txV at HW ⊢
  simp only [hn1, hn2] at HW HBOX ⊢
  have HN1 := Lib.hid hn1
  have HN2 := Lib.hid hn2
  have HI := Lib.hid hins
  have HO := Lib.hid houts
  have HBI := Lib.hid hbi
  have HBO := Lib.hid hbo
  have HFL := Lib.hid hfl
  have HSEC := Lib.hid hsec
  have HST := Lib.hid hst
  have hn1b : n1 < 18446744073709551616 := by omega
  have hn2b : n2 < 18446744073709551616 := by omega
  have hneb : ne < 18446744073709551616 := by omega
  have hnfb : nf < 18446744073709551616 := by omega
  have hn1l := numP_le hn1b
  have hn2l := numP_le hn2b
  have hnel := numP_le hneb
  have hnfl := numP_le hnfb
  clear hn1 hn2 hins houts hbi hbo hfl hsec hst hlong h hbd HT hform hbf he1
  obtain ⟨q0, q1, q2, q3⟩ := HBOX.out Wz (Below.refl _ _)
  go_enter Tryz.func53, Tryz.ntmps53
  go_upto_region 1 with fail
  rw [HW.out, HG.out]
  have ck0 := rnum_any n1 hn1b Wz
  go_wp2_with fail
  with_reducible refine ck0.mono ?_
  rintro e w3 ⟨v3, rfl, hv3, hB3⟩
  have HV3 := Lib.hid hv3
  have HB3 := Lib.hid hB3
  clear hv3 hB3 ck0 q0 q1 q2 q3
  have hpl : ∀ i, i ≤ n1 → (numP n1 ++ (ins.take i).flatMap inF).length ≤ 2000 := fun i hi => by
    have h1 := flat_le inF 123 (ins.take i) (fun x hx => inF_len (HBI.out x (List.mem_of_mem_take hx)) (HSEC.out x (List.mem_of_mem_take hx)).1 (HSEC.out x (List.mem_of_mem_take hx)).2)
    have h2 := numP_le (n := n1) (by omega)
    have h3 : (ins.take i).length * 123 ≤ 16 * 123 := Nat.mul_le_mul_right _ (by rw [List.length_take]; omega)
    simp only [List.length_append]
    omega
  have HPL := Lib.hid hpl
  clear hpl
  go_upto_region 3 with fail
  go_loopg [3, 4, 5] n1 (fun kk v s _ wr => ∃ i : Nat, i + kk = n1 ∧ s = .int .i64 (i : Int) ∧ Own8 Wz.heap.size wr v (numP n1 ++ (ins.take i).flatMap inF) ∧ Below Wz.heap.size Wz wr)
  case atStart => exact ⟨0, by omega, rfl, by simpa using HV3.out, HB3.out⟩
  case round =>
    obtain ⟨i, hi, rfl, hv, hB⟩ := hrel
    obtain ⟨q0, q1, q2, q3⟩ := HBOX.out wr hB
    obtain ⟨Av, Nv, cv, hvv⟩ := hv.formN
    subst hvv
    by_cases hlt : i < n1
    · have hltI : (i : Int) < (n1 : Int) := by omega
      have hil : i < ins.length := by rw [HN1.out]; exact hlt
      obtain ⟨g', off, As, cs, rfl, hg', hat0⟩ := HI.out i hil
      have hat := hat0.below hg' hB
      have hbdi := HBI.out _ (List.getElem_mem hil)
      obtain ⟨hs64, hx0, hx15⟩ := HSEC.out _ (List.getElem_mem hil)
      have hIn := LDs_agg uIn iIn wr g' (off + i * 35) (inV ins[i] As cs) (inV_len hbdi _ _) hat.cell
      have hSt := HST.out wr (inV ins[i] As cs) (inV_len hbdi _ _) (inV_one _ _ _)
      have b5 := Blk.new wr 77 (inV ins[i] As cs).toArray
      have B5 := hB.alloc hB.size (.cells (inV ins[i] As cs).toArray 77)
      have hv5 : Own8 Wz.heap.size (wr.alloc (.cells (inV ins[i] As cs).toArray 77)) (.slice Av Nv cv) (numP n1 ++ (ins.take i).flatMap inF) := World.ownsRow.alloc hv _
      have hdv : (Value.slice Av Nv cv).ownBlock ≠ some wr.heap.size := fun e => by have := (hv.lt e).2; omega
      have hid := LDs_aggB uIdA iId b5 (off := 0) (bys ins[i].tx) (by rw [bys_length, hbdi.len]) (inV_tx hbdi As cs)
      obtain ⟨W5, hW5⟩ : ∃ W5, wr.alloc (.cells (inV ins[i] As cs).toArray 77) = W5 := ⟨_, rfl⟩
      rw [hW5] at hSt b5 B5 hv5 hid
      obtain ⟨d, hd⟩ : ∃ d, wr.heap.size = d := ⟨_, rfl⟩
      rw [hd] at b5 hdv hid
      have htk : (ins.take (i + 1)).flatMap inF = (ins.take i).flatMap inF ++ inF ins[i] := by
        rw [List.take_succ_eq_append_getElem hil, List.flatMap_append]; simp
      obtain ⟨nx, hnx⟩ := nat_of hx0
      obtain ⟨na, hna⟩ := nat_of hbdi.am.1
      have wnx : IntKind.u64.wrap (nx : Int) = nx := by rw [IntKind.wrap_u64]; omega
      have hnx2 : nx < 18446744073709551616 := by omega
      have hna2 : na < 18446744073709551616 := by have := hbdi.am; omega
      have hLL := HPL.out i (by omega)
      have hF : inF ins[i] = ins[i].tx ++ (numP nx ++ (numP na ++ (numP ins[i].sec.length ++ ins[i].sec))) := by
        unfold inF
        rw [hnx, hna, Int.toNat_natCast, Int.toNat_natCast]
      obtain ⟨l0, hl0⟩ : ∃ l0, numP n1 ++ (ins.take i).flatMap inF = l0 := ⟨_, rfl⟩
      rw [hl0] at hv5 hLL
      have hlen32 := hbdi.len
      have hxl := numP_le (n := nx) (by omega)
      have hal2 := numP_le (n := na) hna2
      have hfin : numP n1 ++ (ins.take (i + 1)).flatMap inF = l0 ++ ins[i].tx ++ numP nx ++ numP na ++ numP ins[i].sec.length ++ ins[i].sec := by
        rw [htk, ← List.append_assoc, hl0, hF]
        simp only [List.append_assoc]
      have i32 := inV_ixA hbdi As cs
      have i33 := inV_am hbdi As cs
      have i34 := inV_secA hbdi As cs
      rw [hnx] at i32
      rw [hna] at i33
      have htxb := hbdi.tx
      have hbsec := hat0.sec
      have hcap0 := hat0.nul
      obtain ⟨tx, htx⟩ : ∃ tx, ins[i].tx = tx := ⟨_, rfl⟩
      obtain ⟨sec, hsec⟩ : ∃ sec, ins[i].sec = sec := ⟨_, rfl⟩
      obtain ⟨xs, hxs⟩ : ∃ xs, (inV ins[i] As cs).toArray = xs := ⟨_, rfl⟩
      rw [hxs] at hIn hSt b5 i32 i33 i34
      rw [htx] at hid hlen32 hfin htxb
      rw [hsec] at hfin i34 hbsec hs64
      obtain ⟨sl, hsl⟩ : ∃ sl, sec.length = sl := ⟨_, rfl⟩
      rw [hsl] at hs64 hfin i34
      have wsl : IntKind.u64.wrap (sl : Int) = sl := by rw [IntKind.wrap_u64]; omega
      have hslb : sl < 18446744073709551616 := by omega
      have hsll := numP_le hslb
      have HW5 := Lib.hid hW5
      have HD := Lib.hid hd
      have HFIN := Lib.hid hfin
      have HV := Lib.hid hv5
      have hBs := B5.size
      have HB := Lib.hid B5
      have HK := Lib.hid b5
      have HSE := Lib.hid hbsec
      have HSL := Lib.hid hsl
      have HTXB := Lib.hid htxb
      clear hv hB hat0 hat hbdi hx0 hx15 hxs htx hsec hnx hna hF hl0 htk hW5 hd hfin hv5 B5 b5 hbsec hsl htxb
      go_upto_region 6 with fail
      rw [HD.out]
      have ck11 := r6bytes_any tx hlen32 HTXB.out W5
      go_wp2_with fail
      with_reducible refine ck11.mono ?_
      rintro e wu11 ⟨u, rfl, hu, hBu⟩
      obtain ⟨Au11, Nu11, cu11, rfl⟩ := hu.formN
      have hBs11 := Nat.le_trans hBs hBu.size
      obtain ⟨A11, N11, c11, w11, hap11, ho, hf, hft⟩ := app8NO (ty := 28) (HV.out.kept hBu) hu HTXB.out (by omega) hBs11
      have hB := HB.out.trans (hBu.mono hBs)
      have hk := HK.out.fr (Fr.of_below hBu) (by have := HK.out.lt; omega)
      obtain ⟨hk2, hdv2⟩ := app_keep hdv hk hft hf
      have HK := Lib.hid hk2
      have hB2 := hB.trans (hf.below hBs11 (fun k hk e => by have := (HV.out.lt e).1; omega))
      have hBs := hB2.size
      have HV := Lib.hid ho
      have HB := Lib.hid hB2
      clear ho hf hft hB hB2 hBs11 hu hBu ck11 hk hk2 hdv
      have hdv := hdv2
      clear hdv2
      have q32 : w11.cell? ⟨d, 32, none⟩ = some (.int .i64 (nx : Int)) := (HK.out.cell 32).trans i32
      clear hid
      have ck12 := rnum_any nx hnx2 w11
      go_wp2_with fail
      with_reducible refine ck12.mono ?_
      rintro e wu12 ⟨u, rfl, hu, hBu⟩
      obtain ⟨Au12, Nu12, cu12, rfl⟩ := hu.formN
      have hBs12 := Nat.le_trans hBs hBu.size
      obtain ⟨A12, N12, c12, w12, hap12, ho, hf, hft⟩ := app8NO (ty := 28) (HV.out.kept hBu) hu (numP_bd hnx2) (by simp only [List.length_append]; omega) hBs12
      have hB := HB.out.trans (hBu.mono hBs)
      have hk := HK.out.fr (Fr.of_below hBu) (by have := HK.out.lt; omega)
      obtain ⟨hk2, hdv2⟩ := app_keep hdv hk hft hf
      have HK := Lib.hid hk2
      have hB2 := hB.trans (hf.below hBs12 (fun k hk e => by have := (HV.out.lt e).1; omega))
      have hBs := hB2.size
      have HV := Lib.hid ho
      have HB := Lib.hid hB2
      clear ho hf hft hB hB2 hBs12 hu hBu ck12 hk hk2 hdv
      have hdv := hdv2
      clear hdv2
      have q33 : w12.cell? ⟨d, 33, none⟩ = some (.int .u64 (na : Int)) := (HK.out.cell 33).trans i33
      have ck13 := rnum_any na hna2 w12
      go_wp2_with fail
      with_reducible refine ck13.mono ?_
      rintro e wu13 ⟨u, rfl, hu, hBu⟩
      obtain ⟨Au13, Nu13, cu13, rfl⟩ := hu.formN
      have hBs13 := Nat.le_trans hBs hBu.size
      obtain ⟨A13, N13, c13, w13, hap13, ho, hf, hft⟩ := app8NO (ty := 28) (HV.out.kept hBu) hu (numP_bd hna2) (by simp only [List.length_append]; omega) hBs13
      have hB := HB.out.trans (hBu.mono hBs)
      have hk := HK.out.fr (Fr.of_below hBu) (by have := HK.out.lt; omega)
      obtain ⟨hk2, hdv2⟩ := app_keep hdv hk hft hf
      have HK := Lib.hid hk2
      have hB2 := hB.trans (hf.below hBs13 (fun k hk e => by have := (HV.out.lt e).1; omega))
      have hBs := hB2.size
      have HV := Lib.hid ho
      have HB := Lib.hid hB2
      clear ho hf hft hB hB2 hBs13 hu hBu ck13 hk hk2 hdv
      have hdv := hdv2
      clear hdv2
      have q34 : w13.cell? ⟨d, 34, none⟩ = some (.slice As sl cs) := (HK.out.cell 34).trans i34
      have ck14 := rnum_any sl hslb w13
      go_wp2_with fail
      with_reducible refine ck14.mono ?_
      rintro e wu14 ⟨u, rfl, hu, hBu⟩
      obtain ⟨Au14, Nu14, cu14, rfl⟩ := hu.formN
      have hBs14 := Nat.le_trans hBs hBu.size
      obtain ⟨A14, N14, c14, w14, hap14, ho, hf, hft⟩ := app8NO (ty := 28) (HV.out.kept hBu) hu (numP_bd hslb) (by simp only [List.length_append]; omega) hBs14
      have hB := HB.out.trans (hBu.mono hBs)
      have hk := HK.out.fr (Fr.of_below hBu) (by have := HK.out.lt; omega)
      obtain ⟨hk2, hdv2⟩ := app_keep hdv hk hft hf
      have HK := Lib.hid hk2
      have hB2 := hB.trans (hf.below hBs14 (fun k hk e => by have := (HV.out.lt e).1; omega))
      have hBs := hB2.size
      have HV := Lib.hid ho
      have HB := Lib.hid hB2
      clear ho hf hft hB hB2 hBs14 hu hBu ck14 hk hk2 hdv
      have hdv := hdv2
      clear hdv2
      have q34b : w14.cell? ⟨d, 34, none⟩ = some (.slice As sl cs) := (HK.out.cell 34).trans i34
      obtain ⟨A15, N15, c15, w15, hap15, ho, hf, hft⟩ := app8N (ty := 28) HV.out (HSE.out.below HB.out) HSL.out (hcap0) (by have := HSL.out; simp only [List.length_append]; omega) hBs
      have hB := HB.out
      have hBs15 := hBs
      have hk := HK.out
      obtain ⟨hk2, hdv2⟩ := app_keep hdv hk hft hf
      have HK := Lib.hid hk2
      have hB2 := hB.trans (hf.below hBs15 (fun k hk e => by have := (HV.out.lt e).1; omega))
      have hBs := hB2.size
      have HV := Lib.hid ho
      have HB := Lib.hid hB2
      clear ho hf hft hB hB2 hBs15 hk hk2 hdv
      have hdv := hdv2
      clear hdv2
      have hvf := HV.out
      rw [← HFIN.out] at hvf
      have HV := Lib.hid hvf
      clear hvf
      go_wp2_with fail
      go_roundg (n1 - (i + 1))
      case measure => omega
      case rel => exact ⟨i + 1, by omega, by go_num, HV.out, HB.out⟩
    · obtain rfl : n1 = i := by omega
      have hltI : ¬ (n1 : Int) < (n1 : Int) := by omega
      have hLL := HPL.out n1 (Nat.le_refl _)
      rw [List.take_of_length_le (by rw [HN1.out]; exact Nat.le_refl _)] at hv hLL
      obtain ⟨l0, hl0⟩ : ∃ l0, numP n1 ++ ins.flatMap inF = l0 := ⟨_, rfl⟩
      have HFL2 := HFL.out
      rw [hl0] at hv hLL HFL2
      have HL0 := Lib.hid hl0
      obtain ⟨wo, hwo⟩ : ∃ wo, wo = wr := ⟨_, rfl⟩
      subst hwo
      have HV := Lib.hid hv
      have HB := Lib.hid hB
      have hBs := hB.size
      clear hv hB hl0 HPL HN1 HI HBI HSEC hal
      have ck16 := rnum_any n2 hn2b wo
      go_wp2_with fail
      with_reducible refine ck16.mono ?_
      rintro e wu16 ⟨u, rfl, hu, hBu⟩
      obtain ⟨Au16, Nu16, cu16, rfl⟩ := hu.formN
      have hBs16 := Nat.le_trans hBs hBu.size
      obtain ⟨A16, N16, c16, w16, hap16, ho, hf, hft⟩ := app8NO (ty := 28) (HV.out.kept hBu) hu (numP_bd hn2b) (by omega) hBs16
      have hB := HB.out.trans (hBu.mono hBs)
      have hB2 := hB.trans (hf.below hBs16 (fun k hk e => by have := (HV.out.lt e).1; omega))
      have hBs := hB2.size
      have HV := Lib.hid ho
      have HB := Lib.hid hB2
      clear ho hf hft hB hB2 hBs16 hu hBu ck16
      have HV4 := HV
      have HB4 := HB
      clear HV HB
      clear q0 q1 q2 q3
      have hpl : ∀ i, i ≤ n2 → (l0 ++ numP n2 ++ (outs.take i).flatMap outF).length ≤ 3000 := fun i hi => by
        have h1 := flat_le outF 41 (outs.take i) (fun x hx => outF_len (HBO.out x (List.mem_of_mem_take hx)))
        have h3 : (outs.take i).length * 41 ≤ 16 * 41 := Nat.mul_le_mul_right _ (by rw [List.length_take]; omega)
        simp only [List.length_append]
        omega
      have HPL := Lib.hid hpl
      clear hpl
      go_upto_region 13 with fail
      go_loopg [3, 6] n2 (fun kk v s wr => ∃ i : Nat, i + kk = n2 ∧ s = .int .i64 (i : Int) ∧ Own8 Wz.heap.size wr v (l0 ++ numP n2 ++ (outs.take i).flatMap outF) ∧ Below Wz.heap.size Wz wr)
      case atStart => exact ⟨0, by omega, rfl, by simpa using HV4.out, HB4.out⟩
      case round =>
        obtain ⟨i, hi, rfl, hv, hB⟩ := hrel
        obtain ⟨q0, q1, q2, q3⟩ := HBOX.out wr hB
        obtain ⟨Av, Nv, cv, hvv⟩ := hv.formN
        subst hvv
        by_cases hlt2 : i < n2
        · have hltI : (i : Int) < (n2 : Int) := by omega
          have hil : i < outs.length := by rw [HN2.out]; exact hlt2
          obtain ⟨g', off, rfl, hg', hat⟩ := HO.out.below hB i hil
          have hbdi := HBO.out _ (List.getElem_mem hil)
          have hid := LDs_agg uIdA iId wr g' (off + i * 33) (bys outs[i].ow) (by rw [bys_length, hbdi.len]) (fun j v hv => hat j v (by unfold outV; rw [List.getElem?_append_left (List.getElem?_eq_some_iff.1 hv).1]; exact hv))
          have htk : (outs.take (i + 1)).flatMap outF = (outs.take i).flatMap outF ++ outF outs[i] := by
            rw [List.take_succ_eq_append_getElem hil, List.flatMap_append]; simp
          obtain ⟨na, hna⟩ := nat_of hbdi.am.1
          have hna2 : na < 18446744073709551616 := by have := hbdi.am; omega
          have hLL2 := HPL.out i (by omega)
          have hF : outF outs[i] = outs[i].ow ++ numP na := by
            unfold outF
            rw [hna, Int.toNat_natCast]
          obtain ⟨l1, hl1⟩ : ∃ l1, l0 ++ numP n2 ++ (outs.take i).flatMap outF = l1 := ⟨_, rfl⟩
          rw [hl1] at hv hLL2
          have hlen32 := hbdi.len
          have hal2 := numP_le (n := na) hna2
          have hfin : l0 ++ numP n2 ++ (outs.take (i + 1)).flatMap outF = l1 ++ outs[i].ow ++ numP na := by
            rw [htk, ← List.append_assoc, hl1, hF]
            simp only [List.append_assoc]
          have i32 := outV_am hbdi
          rw [hna] at i32
          have htxb := hbdi.ow
          have hout : ∀ X, Below Wz.heap.size Wz X → X.cell? ⟨g', off + i * 33 + 32, none⟩ = some (.int .u64 (na : Int)) := fun X hX => by
            obtain ⟨g2, off2, e2, _, hat2⟩ := HO.out.below hX i hil
            cases e2
            exact hat2 32 _ (by simpa using i32)
          obtain ⟨tx, htx⟩ : ∃ tx, outs[i].ow = tx := ⟨_, rfl⟩
          rw [htx] at hid hlen32 hfin htxb
          have HFIN := Lib.hid hfin
          have HV := Lib.hid hv
          have HB := Lib.hid hB
          have hBs := hB.size
          have HTXB := Lib.hid htxb
          have HOUT := Lib.hid hout
          clear hv hB hat hbdi htx hna hF hl1 htk hfin htxb i32 hout HV4 HB4
          have ck17 := r6bytes_any tx hlen32 HTXB.out wr
          go_wp2_with fail
          with_reducible refine ck17.mono ?_
          rintro e wu17 ⟨u, rfl, hu, hBu⟩
          obtain ⟨Au17, Nu17, cu17, rfl⟩ := hu.formN
          have hBs17 := Nat.le_trans hBs hBu.size
          obtain ⟨A17, N17, c17, w17, hap17, ho, hf, hft⟩ := app8NO (ty := 28) (HV.out.kept hBu) hu HTXB.out (by omega) hBs17
          have hB := HB.out.trans (hBu.mono hBs)
          have hB2 := hB.trans (hf.below hBs17 (fun k hk e => by have := (HV.out.lt e).1; omega))
          have hBs := hB2.size
          have HV := Lib.hid ho
          have HB := Lib.hid hB2
          clear ho hf hft hB hB2 hBs17 hu hBu ck17
          have q33 := HOUT.out w17 HB.out
          obtain ⟨q0a, q1a, q2a, q3a⟩ := HBOX.out w17 HB.out
          clear hid
          have ck18 := rnum_any na hna2 w17
          go_wp2_with fail
          with_reducible refine ck18.mono ?_
          rintro e wu18 ⟨u, rfl, hu, hBu⟩
          obtain ⟨Au18, Nu18, cu18, rfl⟩ := hu.formN
          have hBs18 := Nat.le_trans hBs hBu.size
          obtain ⟨A18, N18, c18, w18, hap18, ho, hf, hft⟩ := app8NO (ty := 28) (HV.out.kept hBu) hu (numP_bd hna2) (by simp only [List.length_append]; omega) hBs18
          have hB := HB.out.trans (hBu.mono hBs)
          have hB2 := hB.trans (hf.below hBs18 (fun k hk e => by have := (HV.out.lt e).1; omega))
          have hBs := hB2.size
          have HV := Lib.hid ho
          have HB := Lib.hid hB2
          clear ho hf hft hB hB2 hBs18 hu hBu ck18
          have hvf := HV.out
          rw [← HFIN.out] at hvf
          have HV := Lib.hid hvf
          clear hvf
          go_wp2_with fail
          go_roundg (n2 - (i + 1))
          case measure => omega
          case rel => exact ⟨i + 1, by omega, by go_num, HV.out, HB.out⟩
        · obtain rfl : n2 = i := by omega
          have hltI : ¬ (n2 : Int) < (n2 : Int) := by omega
          have hLL2 := HPL.out n2 (Nat.le_refl _)
          rw [List.take_of_length_le (by rw [HN2.out]; exact Nat.le_refl _)] at hv hLL2
          obtain ⟨l1, hl1⟩ : ∃ l1, l0 ++ numP n2 ++ outs.flatMap outF = l1 := ⟨_, rfl⟩
          rw [hl1] at hv hLL2
          have HL1 := Lib.hid hl1
          have HV := Lib.hid hv
          have HB := Lib.hid hB
          have hBs := hB.size
          clear hv hB hl1 HPL HN2 HO HBO HV4 HB4
          have ck19 := rnum_any nf hnfb wr
          go_wp2_with fail
          with_reducible refine ck19.mono ?_
          rintro e wu19 ⟨u, rfl, hu, hBu⟩
          obtain ⟨Au19, Nu19, cu19, rfl⟩ := hu.formN
          have hBs19 := Nat.le_trans hBs hBu.size
          obtain ⟨A19, N19, c19, w19, hap19, ho, hf, hft⟩ := app8NO (ty := 28) (HV.out.kept hBu) hu (numP_bd hnfb) (by omega) hBs19
          have hB := HB.out.trans (hBu.mono hBs)
          have hB2 := hB.trans (hf.below hBs19 (fun k hk e => by have := (HV.out.lt e).1; omega))
          have hBs := hB2.size
          have HV := Lib.hid ho
          have HB := Lib.hid hB2
          clear ho hf hft hB hB2 hBs19 hu hBu ck19
          obtain ⟨q0b, q1b, q2b, q3b⟩ := HBOX.out w19 HB.out
          clear q0 q1 q2 q3
          have ck20 := rnum_any ne hneb w19
          go_wp2_with fail
          with_reducible refine ck20.mono ?_
          rintro e wu20 ⟨u, rfl, hu, hBu⟩
          obtain ⟨Au20, Nu20, cu20, rfl⟩ := hu.formN
          have hBs20 := Nat.le_trans hBs hBu.size
          obtain ⟨A20, N20, c20, w20, hap20, ho, hf, hft⟩ := app8NO (ty := 28) (HV.out.kept hBu) hu (numP_bd hneb) (by simp only [List.length_append]; omega) hBs20
          have hB := HB.out.trans (hBu.mono hBs)
          have hB2 := hB.trans (hf.below hBs20 (fun k hk e => by have := (HV.out.lt e).1; omega))
          have hBs := hB2.size
          have HV := Lib.hid ho
          have HB := Lib.hid hB2
          clear ho hf hft hB hB2 hBs20 hu hBu ck20
          have hvf := HV.out
          rw [← HL1.out, ← HL0.out] at hvf
          have HV := Lib.hid hvf
          clear hvf
          go_wp2_with fail
          go_ret
          exact ⟨_, rfl, HV.out.base HB0.out.size, HB0.out.trans (HB.out.mono HB0.out.size)⟩
end Go.Proofs.YtdkanehjahpehaaGreatDoor
end

section
namespace Go.Proofs.YtdkanehjahpehaaGreatDoor
open Go.RowKit Go.Shelf
set_option maxRecDepth 100000
attribute [local go_sem ↓] ld123 st123 al123 apt22_of

set_option maxHeartbeats 4000000 in
theorem rid_any (A1 : Option Addr) (c1 : Nat) (A2 : Option Addr) (c2 : Nat) (t : TxD) (w : World) (h : TxAt w A1 A2 t) (hck : checkP t = 0) :
    Calls Tryz.prog 21 #[.agg (txV A1 c1 A2 c2 t)] w fun e w' => e = .returned (.agg (bys (idP t)).toArray) ∧ Below w.heap.size w w' := by
  obtain ⟨z, hz1, hz2⟩ := Option.map_eq_some_iff.1 z123
  have hal := ALs_new (P := Tryz.prog) (t := 48) z hz1 (w.alloc (.cells (txV A1 c1 A2 c2 t) 26))
  obtain ⟨Z, hZ⟩ : ∃ Z, z.cells = Z := ⟨_, rfl⟩
  rw [hZ] at hal hz2
  have hzs : Z.size = 32 := by rw [← Array.length_toList, hz2]; rfl
  have b0 := (Blk.new w 26 (txV A1 c1 A2 c2 t)).alloc (.cells Z 48)
  have bz := Blk.new (w.alloc (.cells (txV A1 c1 A2 c2 t) 26)) 48 Z
  have B0 : Below w.heap.size w ((w.alloc (.cells (txV A1 c1 A2 c2 t) 26)).alloc (.cells Z 48)) := ((Below.refl _ w).alloc (Nat.le_refl _) _).alloc (by simp) _
  simp only [World.size_alloc] at hal bz
  obtain ⟨W, hW⟩ : ∃ W, (w.alloc (.cells (txV A1 c1 A2 c2 t) 26)).alloc (.cells Z 48) = W := ⟨_, rfl⟩
  obtain ⟨g, hg⟩ : ∃ g, w.heap.size = g := ⟨_, rfl⟩
  rw [hW] at B0 hal
  rw [hW, hg] at b0 bz
  rw [hg] at hal
  -- the mark
  have hm := own8_lit (B := W.heap.size) W [8] (Nat.le_refl _) (by simp)
  have B1 : Below W.heap.size W (W.alloc (.cells (bys [8]).toArray 5)) := (Below.refl _ W).alloc (Nat.le_refl _) _
  have b01 := b0.alloc (.cells (bys [8]).toArray 5)
  have bz1 := bz.alloc (.cells (bys [8]).toArray 5)
  obtain ⟨X, hX⟩ : ∃ X, W.alloc (.cells (bys [8]).toArray 5) = X := ⟨_, rfl⟩
  rw [hX] at hm B1 b01 bz1
  rw [show ([8] : List Int).length = 1 from rfl] at hm
  rw [show (bys [8]).toArray = #[.int .u8 8] from rfl] at hX
  have B1w := B0.trans (B1.mono B0.size)
  have hT := h.below B1w
  have q0 : X.cell? ⟨g, 0, none⟩ = some (.slice A1 t.ins.length c1) := b01.cell 0
  have q1 : X.cell? ⟨g, 1, none⟩ = some (.slice A2 t.outs.length c2) := b01.cell 1
  have q2 : X.cell? ⟨g, 2, none⟩ = some (.int .u64 t.fee) := b01.cell 2
  have q3 : X.cell? ⟨g, 3, none⟩ = some (.int .i64 t.exp) := b01.cell 3
  have q0w : (W.alloc (.cells #[.int .u8 8] 5)).cell? ⟨g, 0, none⟩ = some (.slice A1 t.ins.length c1) := by rw [hX]; exact q0
  have q1w : (W.alloc (.cells #[.int .u8 8] 5)).cell? ⟨g, 1, none⟩ = some (.slice A2 t.outs.length c2) := by rw [hX]; exact q1
  have q2w : (W.alloc (.cells #[.int .u8 8] 5)).cell? ⟨g, 2, none⟩ = some (.int .u64 t.fee) := by rw [hX]; exact q2
  have q3w : (W.alloc (.cells #[.int .u8 8] 5)).cell? ⟨g, 3, none⟩ = some (.int .i64 t.exp) := by rw [hX]; exact q3
  have hlong := (checkP_ok hck).1
  have hput := rput_any A1 c1 A2 c2 t X hT hlong
  have hfl := formTx_len h.bd hlong
  have hfb := formTx_bd h.bd hlong
  have hid := idP_put t hck
  have hpp : putP t = formTx t := by unfold putP; rw [if_pos hck]
  rw [hpp] at hid
  obtain ⟨D, hD⟩ : ∃ D, idP t = D := ⟨_, rfl⟩
  have hD32 : (bys D).length = 32 := by rw [bys_length, ← hD]; exact idP_len t
  rw [hD] at hid ⊢
  have HID := Lib.hid hid
  have HD32 := Lib.hid hD32
  have HW := Lib.hid hW
  have HX := Lib.hid hX
  have HG := Lib.hid hg
  have HBX := Lib.hid B1
  have HBZ0 := Lib.hid bz
  have HB0 := Lib.hid B0
  have HB1w := Lib.hid B1w
  have HBZ := Lib.hid bz1
  have HZ := Lib.hid hzs
  have HPUT := Lib.hid hput
  have HFB := Lib.hid hfb
  have HFL := Lib.hid hfl
  have HM := Lib.hid hm
  have hge : g + 1 < X.heap.size := bz1.lt
  have HWS : W.heap.size ≤ X.heap.size := B1.size
  have hwW : w.heap.size ≤ W.heap.size := B0.size
  clear hD hD32 hW hX hg B0 B1 B1w bz bz1 hzs hput b0 b01 hz1 hz2 hZ h hT hid hpp hck hlong hfb hfl hm
  unfold txV at HW HPUT hal ⊢
  go_enter Tryz.func21, Tryz.ntmps21
  go_upto_region 1 with fail
  rw [HG.out]
  go_wp2_with fail
  rw [HX.out]
  with_reducible refine HPUT.out.mono ?_
  rintro e w1 ⟨v, rfl, hv, hB1⟩
  obtain ⟨Af, cf, rfl, hby, _, hcf⟩ := hv.byt HFB.out
  have hlg := rlong_any Af cf (fun e => by subst e; exact Own8.nulI hv) (formTx t) w1 hby (by have := HFL.out; omega)
  have hm1 := HM.out.kept hB1
  obtain ⟨np, hnp⟩ : ∃ np, (formTx t).length = np := ⟨_, rfl⟩
  rw [hnp] at hlg ⊢
  have HNP := Lib.hid hnp
  have HB1 := Lib.hid hB1
  have HM1 := Lib.hid hm1
  clear hv hby hcf hm1 hB1 hnp
  go_wp2_with fail
  with_reducible refine hlg.mono ?_
  rintro e w2 ⟨v2, rfl, hv2, hB2⟩
  obtain ⟨Al, Nl, cl, rfl⟩ := hv2.formN
  have hB2X := HB1.out.trans (hB2.mono HB1.out.size)
  obtain ⟨A', N', c', w3, hap, ho, hf, hft⟩ := app8NO (ty := 28) (HM1.out.kept hB2) hv2 (bd_app (be4P_bd _) HFB.out) (by have := HFL.out; have := HNP.out; simp only [List.length_append, be4P_len, List.length_cons, List.length_nil]; omega) (Nat.le_trans HWS hB2X.size)
  have hB2W := HBX.out.trans (hB2X.mono HWS)
  have hB3 : Below W.heap.size W w3 := hB2W.trans (hf.below hB2W.size (fun k hk e => by have := (HM1.out.lt e).1; omega))
  have hb3 : ∀ x ∈ [8] ++ (be4P np ++ formTx t), 0 ≤ x ∧ x ≤ 255 := bd_app (by simp) (bd_app (be4P_bd _) HFB.out)
  obtain ⟨Ay, cy, ey, hby3, _, _⟩ := ho.byt hb3
  simp only [Value.slice.injEq] at ey
  obtain ⟨rfl, rfl, rfl⟩ := ey
  have hof := rof_any A' c' (fun e => by subst e; exact Own8.nulI ho) _ w3 hby3 (by have := HFL.out; have := HNP.out; simp only [List.length_append, be4P_len, List.length_cons, List.length_nil]; omega)
  have hidd := HID.out
  rw [HNP.out, show (8 : Int) :: (be4P np ++ formTx t) = [8] ++ (be4P np ++ formTx t) from rfl] at hidd
  rw [← hidd] at hof
  obtain ⟨N', hN'⟩ : ∃ N', ([8] ++ (be4P np ++ formTx t)).length = N' := ⟨_, rfl⟩
  rw [hN'] at hof hap
  have HB3 := Lib.hid hB3
  clear hv2 hB2 hB2X ho hf hft hB2W hB3 hb3 hby3 hidd hN' hlg
  go_wp2_with fail
  with_reducible refine hof.mono ?_
  rintro e w4 ⟨rfl, hB4⟩
  have hB4W := HB3.out.trans (hB4.mono HB3.out.size)
  have hbz := HBZ0.out.fr (Fr.of_below hB4W) (by have := HBZ0.out.lt; omega)
  have hst := STs_blk (P := Tryz.prog) (t := 48) i123 hbz (off := 0) (bys D) HD32.out (by rw [HZ.out]; omega) (bys_one _)
  rw [splice_whole _ _ (by rw [HD32.out, HZ.out])] at hst
  have HB4W := Lib.hid hB4W
  have HB4 := Lib.hid hbz
  clear hof hB4 hB4W hbz
  go_wp2_with fail
  exact bodyPost_ret (results_arr rfl _ _ (g + 1) 48 (bys D) _ rfl (HB4.out.row_ _) undId' rfl (by rw [HD32.out]; exact i123)) rfl ⟨rfl, Below.setRow (HB0.out.trans (HB4W.out.mono HB0.out.size)) (by rw [HG.out]; omega) _⟩
end Go.Proofs.YtdkanehjahpehaaGreatDoor
end
