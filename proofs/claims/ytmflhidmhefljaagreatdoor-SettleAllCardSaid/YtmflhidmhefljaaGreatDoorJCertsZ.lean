/-
  seisinlaw23.certs: right certificates of a kind, by all shards of a transaction's inputs.
-/
import Derived.Test.YtmflhidmhefljaaGreatDoorJSetQ
import Derived.Test.YtmflhidmhefljaaGreatDoorJRCertF

namespace Go.Proofs.YtmflhidmhefljaaGreatDoor
open Go.RowKit Go.Shelf
set_option maxRecDepth 100000

/-- The records R (they lie in v) are these certificates; their paths lie elsewhere. -/
structure CertRow (w : World) (v : Value) (R : List (List Value)) (L : List CertD) : Prop where
  len : R.length = L.length
  at_ : ∀ j (h : j < L.length), ∃ B cap, R[j]? = some (certV L[j] B cap) ∧ RdR 32 w B (L[j].path.map bys) ∧ L[j].path.length ≤ cap ∧ (B = none → cap = 0) ∧ L[j].Bd ∧ ∀ a, B = some a → v.ownBlock ≠ some a.block ∧ a.block < w.heap.size
theorem CertRow.nil (w : World) (v : Value) : CertRow w v [] [] := ⟨rfl, fun j h => absurd h (by simp)⟩
theorem CertRow.below {w w' : World} {v : Value} {R : List (List Value)} {L : List CertD} (h : CertRow w v R L) (hb : Below w.heap.size w w') : CertRow w' v R L := ⟨h.len, fun j hj => by
  obtain ⟨B, cap, h1, h2, h3, h4, h5, h6⟩ := h.at_ j hj
  exact ⟨B, cap, h1, h2.below hb, h3, h4, h5, fun a ha => ⟨(h6 a ha).1, Nat.lt_of_lt_of_le (h6 a ha).2 hb.size⟩⟩⟩
theorem CertRow.grow {w w' : World} {v v' : Value} {R : List (List Value)} {L : List CertD} (h : CertRow w v R L) (hf : Fr (fun k => v.ownBlock = some k) w w') (ht : Foot w v v') : CertRow w' v' R L := ⟨h.len, fun j hj => by
  obtain ⟨B, cap, h1, h2, h3, h4, h5, h6⟩ := h.at_ j hj
  refine ⟨B, cap, h1, h2.fr hf (fun a ha e => (h6 a ha).1 e), h3, h4, h5, fun a ha => ⟨fun e => ?_, Nat.lt_of_lt_of_le (h6 a ha).2 hf.size⟩⟩
  rcases ht _ e with h7 | h7
  · exact (h6 a ha).1 h7
  · have := (h6 a ha).2; omega⟩
theorem CertRow.snoc {w : World} {v : Value} {R : List (List Value)} {L : List CertD} (h : CertRow w v R L) {c : CertD} {B : Option Addr} {cap : Nat} (hP : RdR 32 w B (c.path.map bys)) (hcap : c.path.length ≤ cap) (hn : B = none → cap = 0) (hc : c.Bd) (hfar : ∀ a, B = some a → v.ownBlock ≠ some a.block ∧ a.block < w.heap.size) : CertRow w v (R ++ [certV c B cap]) (L ++ [c]) := by
  have hl := h.len
  refine ⟨by simp [hl], fun j hj => ?_⟩
  by_cases hjl : j < L.length
  · obtain ⟨B', cap', h1, h2, h3, h4, h5, h6⟩ := h.at_ j hjl
    rw [List.getElem_append_left hjl, List.getElem?_append_left (by omega)]
    exact ⟨B', cap', h1, h2, h3, h4, h5, h6⟩
  · obtain rfl : j = L.length := by simp at hj; omega
    refine ⟨B, cap, ?_, ?_, ?_, hn, ?_, hfar⟩
    · rw [List.getElem?_append_right (by omega)]; simp [hl]
    · simpa using hP
    · simpa using hcap
    · simpa using hc
theorem far_path {e : TypeId} {m B0 n0 n1 : Nat} {wr w9 : World} {v : Value} {R P : List (List Value)} {B : Option Addr} (hO : OwnR e m B0 wr v R) (h0 : wr.heap.size ≤ n0) (hfre : ∀ a, B = some a → n0 ≤ a.block) (hrd : RdR 32 w9 B P) (hP : 0 < P.length) (hs : w9.heap.size ≤ n1) : ∀ a, B = some a → v.ownBlock ≠ some a.block ∧ a.block < n1 := fun a ha => by
  obtain ⟨g', o', e', hg', _⟩ := hrd 0 hP
  have hge := hfre a ha
  rw [ha] at e'
  cases e'
  refine ⟨fun e => ?_, Nat.lt_of_lt_of_le hg' hs⟩
  have h1 := (hO.lt e).2
  simp only at h1 hge
  omega
/-- So they lie. -/
theorem CertRow.certs {w : World} {v : Value} {A : Option Addr} {R : List (List Value)} {L : List CertD} (h : CertRow w v R L) (hr : RdR 137 w A R) : CertsAt w A L := fun j hj => by
  obtain ⟨B, cap, h1, h2, h3, h4, h5, _⟩ := h.at_ j hj
  obtain ⟨hjr, h1e⟩ := List.getElem?_eq_some_iff.1 h1
  obtain ⟨g, off, e, hg, hc⟩ := hr j hjr
  exact ⟨g, off, B, cap, e, hg, ⟨fun k x hx => hc k x (by rw [h1e]; exact hx), h2, h3, h4, h5⟩⟩
def CertsPost (B : Nat) (L : List CertD) (e : Ending) (w' : World) : Prop := ∃ v R, e = .returned v ∧ OwnR 48 137 B w' v R ∧ CertRow w' v R L

theorem apCert_of (xs : Array Value) (t : TypeId) : Builtin.append_ #[28, 28] t xs = APs #[28, 28] t xs := rfl
theorem bdEnt_k (kind s : Int) (D : List Int) (hD : (bys D).length = 32) (w : World) : (BDs 43 #[(0, .int .i64 kind), (1, .int .i64 s), (2, .agg (bys D).toArray)]).run Tryz.prog w = .ok (.agg (entV ⟨kind, s, D, 0, 0, 0⟩).toArray) w := by
  refine BDs_list plEnt zlEnt _ _ ?_ w
  rw [fillL_cons (off := 0) (size := 1) rfl rfl (by rw [entV_len zeroE_bd]; omega)]
  have e1 : (entV zeroE).take 0 ++ (Value.int .i64 kind).cells.toList ++ (entV zeroE).drop (0 + 1) = entV ⟨kind, 0, List.replicate 32 0, 0, 0, 0⟩ := rfl
  rw [e1, fillL_cons (off := 1) (size := 1) rfl rfl (by simp [entV, bys])]
  have e2 : (entV ⟨kind, 0, List.replicate 32 0, 0, 0, 0⟩).take 1 ++ (Value.int .i64 s).cells.toList ++ (entV ⟨kind, 0, List.replicate 32 0, 0, 0, 0⟩).drop (1 + 1) = entV ⟨kind, s, List.replicate 32 0, 0, 0, 0⟩ := rfl
  rw [e2, fillL_cons (off := 2) (size := 32) rfl (by simp [Value.cells, hD]) (by simp [entV, bys]), fillL_nil]
  have e3 : (entV ⟨kind, s, List.replicate 32 0, 0, 0, 0⟩).take 2 ++ (Value.agg (bys D).toArray).cells.toList ++ (entV ⟨kind, s, List.replicate 32 0, 0, 0, 0⟩).drop (2 + 32) = entV ⟨kind, s, D, 0, 0, 0⟩ := by
    unfold entV
    simp [Value.cells, bys]
  rw [e3]
theorem entV_set34 (kind s a b : Int) (D : List Int) (hD : D.length = 32) : (entV ⟨kind, s, D, a, 0, 0⟩).toArray.setIfInBounds 34 (.int .u64 b) = (entV ⟨kind, s, D, b, 0, 0⟩).toArray := by
  unfold entV
  apply Array.ext'
  simp [bys_length, hD]

attribute [local go_sem ↓] ldTx_of ldEnt_of stEnt_of alEnt_of bdEnt_of ldCert_of stCert_of alCert_of bsCert_of apCert_of

set_option maxHeartbeats 16000000 in
theorem certs23_any (As : Option Addr) (cs : Nat) (seed : List Int) (hsl : seed.length ≤ 64) (A1 : Option Addr) (c1 : Nat) (A2 : Option Addr) (c2 : Nat) (t : TxD) (k : Nat) (h1k : 1 ≤ k) (hk : k ≤ 64) (kind : Int) (hkk : kind = 1 ∨ kind = 2) (hck : checkP t = 0) (w : World) (hsd : Byt w As seed) (h : TxAt w A1 A2 t) :
    Calls Tryz.prog 17 #[.slice As seed.length cs, .agg (txV A1 c1 A2 c2 t), .int .i64 (k : Int), .int .i64 kind] w fun e w' => CertsPost w.heap.size (certsTo seed t k kind (eachP (insP t k)).length) e w' ∧ Below w.heap.size w w' := by
  have b0 := Blk.new w 27 (txV A1 c1 A2 c2 t)
  have B0 : Below w.heap.size w (w.alloc (.cells (txV A1 c1 A2 c2 t) 27)) := (Below.refl _ w).alloc (Nat.le_refl _) _
  obtain ⟨W, hW⟩ : ∃ W, w.alloc (.cells (txV A1 c1 A2 c2 t) 27) = W := ⟨_, rfl⟩
  rw [hW] at b0 B0
  obtain ⟨g, hg⟩ : ∃ g, w.heap.size = g := ⟨_, rfl⟩
  rw [hg] at b0
  have hld := fun X (hX : Below W.heap.size W X) => LDs_all (P := Tryz.prog) uTx iTx (w := X) (txV A1 c1 A2 c2 t).toList (by simpa using b0.fr (Fr.of_below hX) (by have := b0.lt; omega)) rfl
  have hld0 := hld W (Below.refl _ _)
  have hkI : -9223372036854775808 ≤ (k : Int) ∧ (k : Int) ≤ 9223372036854775807 := by omega
  have hsp := rspread_any A1 c1 A2 c2 t (k : Int) false hkI W (h.below B0)
  simp only [Bool.false_eq_true, if_false] at hsp
  have hid := fun X (hX : Below W.heap.size W X) => rid_any A1 c1 A2 c2 t X ((h.below B0).below hX) hck
  have hsum := fun X (hX : Below W.heap.size W X) s => rsum_at A1 c1 A2 c2 t (k : Int) s hkI X ((h.below B0).below hX)
  have hsW := hsd.below B0
  have hil := insQ_len hck h1k hk
  have hil16 := @insP_len t k
  have hea := fun X A N c (hr : RdW .i64 X A (insP t k)) (hN : N = (insP t k).length) => reach_any A N c (insP t k) X hr hN (by omega)
  have hEin := each_in hck h1k hk
  have hDi := dig_id t
  have heb := fun s (hs : 0 ≤ s ∧ s < (k : Int)) => entO_bd (t := t) (k := k) (kind := kind) hkk (show 0 ≤ s ∧ s < 64 by omega)
  have her := fun s (hs : 0 ≤ s ∧ s < (k : Int)) => entO_right (k := k) (kind := kind) h.bd hck h1k hk hkk hs
  have hmade := fun X A c (hn : A = none → c = 0) (j : Nat) s (hs : 0 ≤ s ∧ s < (k : Int)) (hX : Below W.heap.size W X) (hb : Byt X A [(j : Int)]) => made_new As cs seed hsl A c hn [(j : Int)] (entO t k kind s) (heb s hs) (her s hs) 7 (by omega) X (hsW.below hX) hb (by simp)
  have hmbd := fun (j : Nat) s (hs : 0 ≤ s ∧ s < (k : Int)) => made_bd (seed := seed) (cmd := [(j : Int)]) (iss := 7) (heb s hs) (her s hs) (by omega)
  obtain ⟨Ze, hale, hste0, hze⟩ := alstZ (P := Tryz.prog) (t := 43) iEnt zEnt
  obtain ⟨Zc, halc, hstc, _⟩ := alstZ (P := Tryz.prog) (t := 48) iCert zCert
  have hbe := fun s X => bdEnt_k kind s (idP t) (by rw [bys_length, hDi.1]) X
  obtain ⟨xs, hxs⟩ : ∃ xs, txV A1 c1 A2 c2 t = xs := ⟨_, rfl⟩
  simp only [hxs] at hld hld0 hsp hid hsum
  rw [hxs] at hW ⊢
  obtain ⟨ns, hns⟩ : ∃ x, seed.length = x := ⟨_, rfl⟩
  simp only [hns] at hmade
  rw [hns]
  obtain ⟨E, hE⟩ : ∃ S, eachP (insP t k) = S := ⟨_, rfl⟩
  simp only [hE] at hea
  rw [hE] at hEin ⊢
  obtain ⟨L, hL⟩ : ∃ L, insP t k = L := ⟨_, rfl⟩
  simp only [hL] at hsp hea
  rw [hL] at hEin
  obtain ⟨hE1, hE64, hEs⟩ := hEin
  have HW := Lib.hid hW
  have HG := Lib.hid hg
  have HB := Lib.hid B0
  have HLD := Lib.hid hld
  have HEA := Lib.hid hea
  have HID := Lib.hid hid
  have HSUM := Lib.hid hsum
  have HSW := Lib.hid hsW
  have HEB := Lib.hid heb
  have HER := Lib.hid her
  have HMADE := Lib.hid hmade
  have HMBD := Lib.hid hmbd
  have HES := Lib.hid hEs
  have HE := Lib.hid hE
  have HBE := Lib.hid hbe
  have HSTC := Lib.hid hstc
  have HDI := Lib.hid hDi
  have HE1 := Lib.hid hE1
  clear hW hg B0 hld hea hid hsum hsW heb her hmade hmbd hEs hE hbe hstc hDi hE1 hxs hns h hsd hil hil16 b0 hste0 hL hck
  go_enter Tryz.func17, Tryz.ntmps17
  go_upto_region 1 with fail
  rw [HW.out, HG.out]
  go_wp2_with fail
  with_reducible refine hsp.mono ?_
  rintro e w1 ⟨v1, rfl, hv1, hB1⟩
  obtain ⟨Av, Nv, cv, rfl⟩ := hv1.formN
  have he1 := HEA.out w1 Av Nv cv hv1.rd hv1.lenN
  have HB1 := Lib.hid hB1
  clear hB1 hv1 hsp hld0
  go_wp2_with fail
  with_reducible refine he1.mono ?_
  rintro e w2 ⟨v2, rfl, hv2, hB2⟩
  have hB2W := HB1.out.trans (hB2.mono HB1.out.size)
  obtain ⟨Ae, N, ce, rfl⟩ := hv2.formN
  have hN := hv2.lenN
  have hrd2 := hv2.rd
  have HB2 := Lib.hid hB2W
  have HN := Lib.hid hN
  have HRD := Lib.hid hrd2
  clear hB2W hN hrd2 hB2 hv2 he1
  go_upto_region 4 with fail
  go_loopg [10, 11, 12, 13, 14] N (fun kk q s _ _ _ wr => ∃ (j : Nat) (R : List (List Value)), j + kk = N ∧ s = .int .i64 (j : Int) ∧ OwnR 48 137 w2.heap.size wr q R ∧ CertRow wr q R (certsTo seed t k kind j) ∧ Below w2.heap.size w2 wr)
  case atStart => exact ⟨0, [], by omega, rfl, OwnR.nil _ _ _ _, CertRow.nil _ _, Below.refl _ _⟩
  case round =>
    obtain ⟨j, R, hj, rfl, hOwn, hRow, hBr⟩ := hrel
    by_cases hlt : j < N
    · have hltI : (j : Int) < (N : Int) := by omega
      have hj0 : (0 : Int) ≤ (j : Int) := by omega
      have hBw := HB2.out.trans (hBr.mono HB2.out.size)
      have hjE : j < E.length := by rw [← HN.out]; exact hlt
      obtain ⟨hsL, hs0, hsk⟩ := HES.out _ (List.getElem_mem hjE)
      have hgd : E.getD j 0 = E[j] := by simp [List.getD, hjE]
      obtain ⟨g1, o1, rfl, hg1, s1⟩ := (HRD.out.below hBr).at (i := j) hjE
      rw [hgd] at s1
      have hsucc := certsTo_succ seed t (k : Int) kind j
      rw [HE.out, hgd] at hsucc
      obtain ⟨s, hs⟩ : ∃ s, E[j] = s := ⟨_, rfl⟩
      rw [hs] at hsL hs0 hsk s1 hsucc
      have F1 := fun X (hX : Below wr.heap.size wr X) => HLD.out X (hBw.trans (hX.mono hBw.size))
      have F2 := fun X (hX : Below wr.heap.size wr X) => (hX.cell (p := ⟨g1, o1 + j, none⟩) hg1).trans s1
      have hbe := HBE.out s
      obtain ⟨D, hD⟩ : ∃ D, idP t = D := ⟨_, rfl⟩
      have hidd := fun X (hX : Below wr.heap.size wr X) => HID.out X (hBw.trans (hX.mono hBw.size))
      simp only [hD] at hidd hbe
      have hDl : D.length = 32 := by rw [← hD]; exact HDI.out.1
      have hevl : (entV ⟨kind, s, D, 0, 0, 0⟩).length = 37 := by simp [entV, bys_length, hDl]
      have hev1 := entV_one ⟨kind, s, D, 0, 0, 0⟩
      have h34 := entV_set34 kind s 0 (sumAtP t k s) D hDl
      have hc34 : (entV ⟨kind, s, D, 0, 0, 0⟩).toArray[34]? = some (.int .u64 0) := by
        unfold entV
        simp [bys_length, hDl]
      have heO1 : kind = 1 → entO t k kind s = ⟨kind, s, D, sumAtP t k s, 0, 0⟩ := fun e => by subst e; unfold entO; rw [if_pos rfl, hD]
      have heO2 : kind = 2 → entO t k kind s = ⟨kind, s, D, 0, 0, 0⟩ := fun e => by subst e; unfold entO; rw [if_neg (by omega), hD]
      have hebd := HEB.out s ⟨hs0, hsk⟩
      have hm := fun X A c hn hX hb => HMADE.out X A c hn j s ⟨hs0, hsk⟩ hX hb
      have hmb := HMBD.out j s ⟨hs0, hsk⟩
      unfold certO at hsucc
      obtain ⟨eo, heo⟩ : ∃ e, entO t k kind s = e := ⟨_, rfl⟩
      simp only [heo] at hm
      rw [heo] at hmb hsucc heO1 heO2 hebd
      obtain ⟨mc, hmc⟩ : ∃ c, (madeP seed [(j : Int)] eo 7).1 = c := ⟨_, rfl⟩
      simp only [hmc, show ([(j : Int)] : List Int).length = 1 from rfl, show ((7 : Nat) : Int) = 7 from rfl] at hm
      rw [hmc] at hmb hsucc
      have hmp : mc.path.length = 2 := by rw [← hmc]; exact made_path (by rw [← heo]; exact HER.out s ⟨hs0, hsk⟩) (by omega)
      have heol := entV_len hebd
      have hwr : IntKind.u8.wrap (j : Int) = (j : Int) := by rw [IntKind.wrap_u8]; omega
      obtain ⟨ev, hev⟩ : ∃ e, entV ⟨kind, s, D, 0, 0, 0⟩ = e := ⟨_, rfl⟩
      obtain ⟨sm, hsm⟩ : ∃ a, sumAtP t k s = a := ⟨_, rfl⟩
      have hsu := fun X (hX : Below wr.heap.size wr X) => HSUM.out X (hBw.trans (hX.mono hBw.size)) s
      simp only [hsm] at hsu
      rw [hsm] at h34 heO1
      simp only [hev] at hbe hevl hev1 h34 hc34
      have HOWN := Lib.hid hOwn
      have HROW := Lib.hid hRow
      have HBR := Lib.hid hBr
      have HBW := Lib.hid hBw
      have HSK := Lib.hid hsk
      have HS0 := Lib.hid hs0
      have HSUCC := Lib.hid hsucc
      have HH34 := Lib.hid h34
      have HC34 := Lib.hid hc34
      have HO1 := Lib.hid heO1
      have HO2 := Lib.hid heO2
      have HEV := Lib.hid hev
      have HID2 := Lib.hid hidd
      have FF1 := Lib.hid F1
      have FF2 := Lib.hid F2
      have HEVL := Lib.hid hevl
      have HEV1 := Lib.hid hev1
      have HM := Lib.hid hm
      have HMB := Lib.hid hmb
      have HMP := Lib.hid hmp
      have HEOL := Lib.hid heol
      have HWR := Lib.hid hwr
      have HSU := Lib.hid hsu
      clear hOwn hRow hBr hBw hsk hs0 hsucc h34 hc34 heO1 heO2 hev hidd F1 F2 hevl hev1 hm hmb hmp heol hwr hsu hsL hs hgd hD hDl s1 hmc heo hebd hsm
      go_upto_region 6 with fail
      obtain ⟨U, hU⟩ : ∃ U, wr.drew = U := ⟨_, rfl⟩
      have hBU : Below wr.heap.size wr U := by rw [← hU]; exact (Below.refl _ wr).drew
      obtain ⟨S0, hS0⟩ : ∃ S0 : World → Prop, (fun X => (LDs 27 (.pointer (some ⟨g, 0, none⟩))).run Tryz.prog X = .ok (.agg xs) X ∧ X.cell? ⟨g1, o1 + j, none⟩ = some (.int .i64 s)) = S0 := ⟨_, rfl⟩
      have hSS : ∀ X, Below U.heap.size U X → S0 X := fun X hX => by
        have h := hBU.trans (hX.mono hBU.size)
        rw [← hS0]; exact ⟨FF1.out X h, FF2.out X h⟩
      have HSE := Lib.hid hS0
      have HSS := Lib.hid hSS
      have HBU := Lib.hid hBU
      have HU := Lib.hid hU
      clear hS0 hSS hBU hU
      with_reducible refine wp_anyJ (fun i => i != 9) S0 (by kernel_rfl) ?_
      rw [HU.out]
      refine wpAnyJ_mid (m := 4) (Lf := #[true, true, true, true, true, true, false, false, false, false]) [(0, 3), (1, 3), (2, 3), (3, 3), (4, 0), (5, 0)] true (by kernel_rfl) (by kernel_rfl) (by kernel_rfl) (fun _ => HSS.out _ (Below.refl _ _)) ?_
      iterate 4 (with_reducible refine wpTxC_evN (o := ?_) (v := ?_) (a' := ?_) (by with_unfolding_all rfl) (by with_unfolding_all rfl) (fun W' => ?_) ?_ ?_; rotate_left 2; (focus (go_simp <;> with_reducible rfl)); focus (go_simp <;> with_reducible rfl))
      iterate 2 (with_reducible refine wpTxC_takeN (o := ?_) (v := ?_) (a' := ?_) (by with_unfolding_all rfl) (by with_unfolding_all rfl) (fun W' hS => ?_) ?_ ?_; rotate_left 2; (focus (rw [← HSE.out] at hS; obtain ⟨t1, t2⟩ := hS; go_simp <;> with_reducible rfl)); focus (go_simp <;> with_reducible rfl))
      with_reducible refine wpTxC_nil ?_
      refine wpAnyJ_alloc (j := 8) (n := 1) (Lf := #[true, true, true, true, true, true, true, true, true, false]) (t := 43) (Z := Ze) [(6, 2), (7, 3)] (by kernel_rfl) (by kernel_rfl) (by kernel_rfl) (by with_unfolding_all rfl) rfl (fun a X => by go_simp) HSS.out ?_
      intro X0 hX0
      have c6 := HID2.out X0 (HBU.out.trans (hX0.mono HBU.out.size))
      have BX0 := Lib.hid hX0
      clear hX0
      with_reducible refine wpFl_go (o := ?_) (by with_unfolding_all rfl) (by with_unfolding_all rfl) (fun K hK => ?_)
      try simp only [List.getElem_toArray, List.getElem_cons_succ, List.getElem_cons_zero]
      go_simp
      with_reducible refine c6.mono ?_
      rintro e w6 ⟨rfl, hB6⟩
      have BX6 := Lib.hid (BX0.out.trans (hB6.mono BX0.out.size))
      clear c6
      with_reducible refine hK _ _ hB6 (fun X6 hX6 => ?_)
      clear hK K
      have BY6 := Lib.hid (BX6.out.trans (hX6.mono BX6.out.size))
      clear hX6 hB6
      iterate 1 (with_reducible refine wpFl_evN (o := ?_) (v := ?_) (a' := ?_) (by with_unfolding_all rfl) (by with_unfolding_all rfl) (fun W' => ?_) ?_ ?_; rotate_left 2; (focus (go_simp <;> with_reducible rfl)); focus (go_simp <;> with_reducible rfl))
      with_reducible refine wpFl_nil ?_
      intro hXe h8 hh8 hb8
      have hst := STs_all (P := Tryz.prog) iEnt hb8 hze ev HEVL.out HEV1.out
      have r1 := hb8.row_ ev.toArray
      have hBX : Below wr.heap.size wr X6 := HBU.out.trans (BY6.out.mono HBU.out.size)
      have hgh : wr.heap.size ≤ h8 := Nat.le_trans HBU.out.size hh8
      have r2 := Below.setRow (g := h8) hBX hgh ev.toArray
      have HBX := Lib.hid hBX
      have HGH := Lib.hid hgh
      clear hBX hgh hb8 hXe hh8
      refine wpAnyJ_restS [(9, 2)] true (by kernel_rfl) (by kernel_rfl) (by kernel_rfl) (fun _ => HSS.out _ BY6.out) ?_
      with_reducible refine wpTxO_last (o := ?_) (by with_unfolding_all rfl) (by with_unfolding_all rfl) (fun K hK => ?_)
      try simp only [List.getElem_toArray, List.getElem_cons_succ, List.getElem_cons_zero]
      go_simp
      with_reducible refine hK _ _ ?_
      clear hK K
      with_reducible refine wpTxO_nil ?_
      rw [noPan_normal]
      obtain ⟨Y, hY⟩ : ∃ Y, X6.setRow h8 ev.toArray = Y := ⟨_, rfl⟩
      rw [hY] at r1 r2 ⊢
      have R1B := Lib.hid r1
      have BW := Lib.hid r2
      clear r1 r2 hst hY
      rcases hkk with hkd | hkd
      focus
        have hk1 : (kind == 1) = true := by rw [hkd]; rfl
        have hE : eo = ⟨kind, s, D, sm, 0, 0⟩ := HO1.out hkd
        have hBd : Below wr.heap.size wr Y.drew := BW.out.drew
        have e1 := HSU.out _ hBd
        have HEQ := Lib.hid hE
        have HBD := Lib.hid hBd
        clear hE hBd hkd
        go_upto_region 8 with fail
        refine wp_txO [(1, 3), (2, 3), (3, 3), (4, 3), (0, 0), (5, 0), (6, 2), (7, 3), (8, 2)] S0 (by kernel_rfl) (by kernel_rfl) (by kernel_rfl) (by kernel_rfl) (by rw [← HSE.out]; exact ⟨FF1.out _ HBD.out, FF2.out _ HBD.out⟩) ?_
        iterate 4 (with_reducible refine wpTxO_evN (o := ?_) (v := ?_) (a' := ?_) (by with_unfolding_all rfl) (by with_unfolding_all rfl) (fun W' => ?_) ?_ ?_; rotate_left 2; (focus (go_simp <;> with_reducible rfl)); focus (go_simp <;> with_reducible rfl))
        iterate 2 (with_reducible refine wpTxO_takeN (o := ?_) (v := ?_) (a' := ?_) (by with_unfolding_all rfl) (by with_unfolding_all rfl) (fun W' hS => ?_) ?_ ?_; rotate_left 2; (focus (rw [← HSE.out] at hS; obtain ⟨t1, t2⟩ := hS; go_simp <;> with_reducible rfl)); focus (go_simp <;> with_reducible rfl))
        with_reducible refine wpTxO_last (o := ?_) (by with_unfolding_all rfl) (by with_unfolding_all rfl) (fun K hK => ?_)
        try simp only [List.getElem_toArray, List.getElem_cons_succ, List.getElem_cons_zero]
        go_simp
        with_reducible refine e1.mono ?_
        rintro e w8 ⟨rfl, hB8⟩
        have b8 := R1B.out.drew.fr (Fr.of_below hB8) (by have := R1B.out.lt; simp; omega)
        have kc := (b8.cell 34).trans HC34.out
        have kf := b8.frozen 34
        have b9 := b8.set_ 34 (.int .u64 sm)
        rw [HH34.out, ← HEQ.out] at b9
        have hBY := (HBD.out.trans (hB8.mono HBD.out.size)).setCell (p := ⟨h8, 34, none⟩) HGH.out (.int .u64 sm)
        have B9 := Lib.hid b9
        have HYB := Lib.hid hBY
        clear b9 hBY e1 b8 hB8
        with_reducible refine hK _ _ ?_
        clear hK K
        iterate 1 (with_reducible refine wpTxO_evN (o := ?_) (v := ?_) (a' := ?_) (by with_unfolding_all rfl) (by with_unfolding_all rfl) (fun W' => ?_) ?_ ?_; rotate_left 2; (focus (go_simp <;> with_reducible rfl)); focus (go_simp <;> with_reducible rfl))
        with_reducible refine wpTxO_last (o := ?_) (by with_unfolding_all rfl) (by with_unfolding_all rfl) (fun K hK => ?_)
        try simp only [List.getElem_toArray, List.getElem_cons_succ, List.getElem_cons_zero]
        go_simp
        with_reducible refine hK _ _ ?_
        clear hK K
        with_reducible refine wpTxO_nil ?_
        rw [noPan_normal]
        go_upto_region 9 with fail
        clear kc kf
        obtain ⟨Y2, hY2⟩ : ∃ Y2, w8.setCell ⟨h8, 34, none⟩ (.int .u64 sm) = Y2 := ⟨_, rfl⟩
        rw [hY2] at B9 HYB ⊢
        clear hY2
      rotate_left
      focus
        have hk1 : (kind == 1) = false := by rw [hkd]; rfl
        have hE : eo = ⟨kind, s, D, 0, 0, 0⟩ := HO2.out hkd
        have b9 := R1B.out
        rw [← HEV.out, ← hE] at b9
        have hBY := BW.out
        have B9 := Lib.hid b9
        have HYB := Lib.hid hBY
        clear b9 hBY hkd hE
        go_upto_region 9 with fail
        obtain ⟨Y2, hY2⟩ : ∃ Y2, Y = Y2 := ⟨_, rfl⟩
        rw [hY2] at B9 HYB ⊢
        clear hY2
      all_goals
        have hbb : Blk (Y2.alloc (.cells (bys [(j : Int)]).toArray 5)) Y2.heap.size 5 (bys [(j : Int)]).toArray := Blk.new Y2 _ _
        have BS : Below Y2.heap.size Y2 (Y2.alloc (.cells (bys [(j : Int)]).toArray 5)) := (Below.refl _ Y2).alloc (Nat.le_refl _) _
        have hby := hbb.byt (by simp; omega)
        rw [show (bys [(j : Int)]).toArray = #[.int .u8 (j : Int)] from rfl] at BS hby
        have hldE := LDs_all (P := Tryz.prog) uEnt iEnt (entV eo) (B9.out.fr (Fr.of_below BS) (by have := B9.out.lt; omega)) HEOL.out
        have hBSr := HYB.out.trans (BS.mono HYB.out.size)
        have hm := HM.out _ (some ⟨Y2.heap.size, 0, none⟩) 1 (fun h => by cases h) (HBW.out.trans (hBSr.mono HBW.out.size)) hby
        obtain ⟨ea, hea⟩ : ∃ a, (entV eo).toArray = a := ⟨_, rfl⟩
        rw [hea] at hldE hm
        have hw8 := HWR.out
        have HBS := Lib.hid hBSr
        clear hBSr hbb BS hby hea
        go_wp2_with fail
        with_reducible refine hm.mono ?_
        rintro e w9 ⟨B, cap, rfl, hrd, hcap, hnl, hfre, hB9⟩
        have hB9w := HBS.out.trans (hB9.mono HBS.out.size)
        have hcl := certV_len HMB.out B cap
        have hc1 := certV_one mc B cap
        have hst9 := HSTC.out w9 (certV mc B cap) hcl hc1
        have q1 := Blk.new w9 48 (certV mc B cap).toArray
        have q2 := hB9w.alloc hB9w.size (.cells (certV mc B cap).toArray 48)
        have hRow2 := ((HROW.out.below hB9w).below ((Below.refl _ w9).alloc (Nat.le_refl _) (.cells (certV mc B cap).toArray 48)))
        have hOwn2 := HOWN.out.keep q2
        have rd3 := hrd.below ((Below.refl _ w9).alloc (Nat.le_refl _) (.cells (certV mc B cap).toArray 48))
        have hfar := far_path (n1 := (w9.alloc (.cells (certV mc B cap).toArray 48)).heap.size) HOWN.out (Nat.le_trans HYB.out.size (Nat.le_add_right _ 1)) (fun a ha => by have := hfre a ha; simp at this; omega) hrd (by rw [List.length_map, HMP.out]; omega) (by simp)
        obtain ⟨V, hV⟩ : ∃ X, w9.alloc (.cells (certV mc B cap).toArray 48) = X := ⟨_, rfl⟩
        rw [hV] at q1 q2 hst9 hRow2 hOwn2 rd3 hfar
        have hldC := LDs_all (P := Tryz.prog) uCert iCert (certV mc B cap) q1 hcl
        have hbc := BSs_one (P := Tryz.prog) uCerts iCerts2 (by omega) (by omega) V (.agg (certV mc B cap).toArray) (by simp [Value.cells, hcl])
        simp only [Value.cells] at hbc
        have hVB : w2.heap.size ≤ V.heap.size := Nat.le_trans HBR.out.size q2.size
        obtain ⟨v', w', hap, hown3, hfr3, hft3⟩ := appR_one (P := Tryz.prog) (ty := 28) uCerts iCerts (by omega) (by omega) hOwn2 (certV mc B cap) hcl hc1 (by have := hRow2.len; rw [certsTo_len] at this; omega) hVB
        have hB3 := hOwn2.step hfr3 hVB
        have hBV : Below w2.heap.size w2 V := HBR.out.trans (q2.mono HBR.out.size)
        have hBfin := hBV.trans hB3
        have hrow3 := (hRow2.snoc rd3 hcap hnl HMB.out hfar).grow hfr3 hft3
        obtain ⟨cv, hcv⟩ : ∃ x, (certV mc B cap).toArray = x := ⟨_, rfl⟩
        rw [hcv] at hst9 hldC hbc hap hV ⊢
        have HB9 := Lib.hid hB9w
        have HBF := Lib.hid hBfin
        have HR3 := Lib.hid hrow3
        have HO3 := Lib.hid hown3
        clear hB9w hBfin hrow3 hown3 hB9 hm hldE hrd q1 q2 hRow2 hOwn2 rd3 hfr3 hB3 hBV hVB hcl hc1 hcv hfre hfar hft3
        go_wp2_with fail
        go_roundg (N - (j + 1))
        case measure => omega
        case rel => exact ⟨j + 1, _, by omega, by go_num, HO3.out, by rw [HSUCC.out]; exact HR3.out, HBF.out⟩
    · obtain rfl : j = N := by omega
      have hltI : ¬ (j : Int) < (j : Int) := by omega
      rw [HN.out] at hRow
      have HOWN := Lib.hid hOwn
      have HROW := Lib.hid hRow
      have HBR := Lib.hid hBr
      clear hOwn hRow hBr
      go_wp2_with fail
      go_ret
      have hB2r := HB2.out.trans (HBR.out.mono HB2.out.size)
      exact ⟨⟨_, R, rfl, HOWN.out.base (Nat.le_trans HB.out.size HB2.out.size), HROW.out⟩, HB.out.trans (hB2r.mono HB.out.size)⟩
end Go.Proofs.YtmflhidmhefljaaGreatDoor
