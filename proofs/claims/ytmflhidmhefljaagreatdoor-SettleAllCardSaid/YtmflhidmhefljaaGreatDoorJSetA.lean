/-
  Certificates in the world; settle.Sum, settle.check.
  settle.check, settle.All.
  settle.All without a ring; settle.One.
-/
import Derived.Test.YtmflhidmhefljaaGreatDoorJCertD
import Derived.Test.YtmflhidmhefljaaGreatDoorJMapE

section
namespace Go.Proofs.YtmflhidmhefljaaGreatDoor
open Go.RowKit Go.Shelf
set_option maxRecDepth 100000
theorem uTx : (Tryz.prog.underlying 27).map isAggD = some true := by kernel_rfl
theorem iTx : (Tryz.prog.info? 27).map (·.size) = some 4 := by kernel_rfl
theorem ldTx_of (v : Value) : Instr.loadAt 27 v = LDs 27 v := rfl
attribute [local go_sem ↓] ldTx_of ldCert_of stCert_of alCert_of

/-- At g, o lies a certificate. -/
structure CertAt (w : World) (g o : Nat) (B : Option Addr) (cap : Nat) (c : CertD) : Prop where
  cell : ∀ j x, (certV c B cap)[j]? = some x → w.cell? ⟨g, o + j, none⟩ = some x
  path : RdR 32 w B (c.path.map bys)
  room : c.path.length ≤ cap
  nul : B = none → cap = 0
  bd : c.Bd
theorem CertAt.below {w w' : World} {g o : Nat} {B : Option Addr} {cap : Nat} {c : CertD} (h : CertAt w g o B cap c) (hg : g < w.heap.size) (hb : Below w.heap.size w w') : CertAt w' g o B cap c :=
  ⟨fun j x hx => (hb.cell (p := ⟨g, o + j, none⟩) hg).trans (h.cell j x hx), h.path.below hb, h.room, h.nul, h.bd⟩
/-- From A on lie these certificates. -/
def CertsAt (w : World) (A : Option Addr) (l : List CertD) : Prop := ∀ j (h : j < l.length), ∃ g off B cap, A = some ⟨g, off, none⟩ ∧ g < w.heap.size ∧ CertAt w g (off + j * 137) B cap l[j]
theorem CertsAt.below {w w' : World} {A : Option Addr} {l : List CertD} (h : CertsAt w A l) (hb : Below w.heap.size w w') : CertsAt w' A l := fun j hj => by
  obtain ⟨g, off, B, cap, e, hg, hc⟩ := h j hj
  exact ⟨g, off, B, cap, e, Nat.lt_of_lt_of_le hg hb.size, hc.below hg hb⟩
/-- A load of one. -/
theorem CertAt.ld {w : World} {g o : Nat} {B : Option Addr} {cap : Nat} {c : CertD} (h : CertAt w g o B cap c) : (LDs 48 (.pointer (some ⟨g, o, none⟩))).run Tryz.prog w = .ok (.agg (certV c B cap).toArray) w :=
  LDs_agg uCert iCert w g o (certV c B cap) (certV_len h.bd B cap) h.cell

theorem insP_le (t : TxD) (n : Int) : (insP t n).length ≤ t.ins.length := by
  unfold insP
  split
  · simp
  · simp
/-- The sum of the first few places. -/
def sumTo (t : TxD) (L : List Int) (i : Nat) : Int := ((L.take i).map fun k => (t.ins.getD k.toNat default).am).foldl (fun a b => IntKind.u64.wrap (a + b)) 0
theorem sumTo_zero (t : TxD) (L : List Int) : sumTo t L 0 = 0 := by simp [sumTo]
theorem sumTo_succ (t : TxD) (L : List Int) {i : Nat} (hi : i < L.length) : sumTo t L (i + 1) = IntKind.u64.wrap (sumTo t L i + (t.ins.getD (L.getD i 0).toNat default).am) := by
  unfold sumTo
  rw [List.take_succ_eq_append_getElem hi, List.map_append, List.foldl_append]
  simp [List.getD, hi]
theorem sumTo_all (t : TxD) (n s : Int) {N : Nat} (h : (placesP (insP t n) s).length = N) : sumTo t (placesP (insP t n) s) N = sumAtP t n s := by
  subst h
  unfold sumTo sumAtP
  rw [List.take_length]
theorem wrap_u64_bd (x : Int) : 0 ≤ IntKind.u64.wrap x ∧ IntKind.u64.wrap x ≤ 18446744073709551615 := by
  rw [IntKind.wrap_u64]
  omega
theorem sumTo_bd (t : TxD) (L : List Int) (i : Nat) : 0 ≤ sumTo t L i ∧ sumTo t L i ≤ 18446744073709551615 := by
  rcases Nat.lt_or_ge 0 (L.take i).length with h | h
  · obtain ⟨m, x, e⟩ := List.eq_nil_or_concat (L.take i) |>.resolve_left (fun e => by rw [e] at h; simp at h)
    unfold sumTo
    rw [e, List.concat_eq_append, List.map_append, List.foldl_append]
    exact wrap_u64_bd _
  · have : L.take i = [] := List.length_eq_zero_iff.1 (by omega)
    unfold sumTo
    rw [this]
    simp

set_option maxHeartbeats 4000000 in
theorem setsum_any (A1 : Option Addr) (c1 : Nat) (A2 : Option Addr) (c2 : Nat) (t : TxD) (n s : Int) (hn : -9223372036854775808 ≤ n ∧ n ≤ 9223372036854775807) (w : World) (h : TxAt w A1 A2 t) (hgl : Glob w) (hl : t.ins.length ≤ 1000000) (hl2 : t.outs.length ≤ 1000000) :
    Calls Tryz.prog 14 #[.agg (txV A1 c1 A2 c2 t), .int .i64 n, .int .i64 s] w fun e w' => e = .returned (.int .u64 (sumAtP t n s)) ∧ Below w.heap.size w w' := by
  have b0 := Blk.new w 27 (txV A1 c1 A2 c2 t)
  have B0 : Below w.heap.size w (w.alloc (.cells (txV A1 c1 A2 c2 t) 27)) := (Below.refl _ w).alloc (Nat.le_refl _) _
  obtain ⟨W, hW⟩ : ∃ W, w.alloc (.cells (txV A1 c1 A2 c2 t) 27) = W := ⟨_, rfl⟩
  rw [hW] at b0 B0
  obtain ⟨g, hg⟩ : ∃ g, w.heap.size = g := ⟨_, rfl⟩
  rw [hg] at b0
  have hld := LDs_all (P := Tryz.prog) uTx iTx (txV A1 c1 A2 c2 t).toList (by simpa using b0) rfl
  have hat := mat_any A1 c1 A2 c2 t n s hn W (h.below B0) (hgl.below B0) hl hl2
  have htx := h.below B0
  have k0 : ∀ X, Below W.heap.size W X → X.cell? ⟨g, 0, none⟩ = some (.slice A1 t.ins.length c1) := fun X hX => (b0.fr (Fr.of_below hX) (by have := b0.lt; omega)).cell 0
  have hpm := placesP_mem (insP t n) s
  have hpl := placesP_len (insP t n) s
  have hil := insP_le t n
  have hil2 := @insP_len t n
  obtain ⟨L, hL⟩ : ∃ L, placesP (insP t n) s = L := ⟨_, rfl⟩
  have hsall := fun N => sumTo_all t n s (N := N)
  rw [hL] at hpm hpl hat hsall
  have hpb : ∀ x ∈ L, ∃ i : Nat, x = (i : Int) ∧ i < t.ins.length := fun x hx => by
    obtain ⟨i, e, hi⟩ := (hpm x).1 hx
    exact ⟨i, e, Nat.lt_of_lt_of_le (List.getElem?_eq_some_iff.1 hi).1 hil⟩
  have hLl : L.length ≤ 16 := by omega
  obtain ⟨xs, hxs⟩ : ∃ xs, txV A1 c1 A2 c2 t = xs := ⟨_, rfl⟩
  rw [show (txV A1 c1 A2 c2 t).toList.toArray = txV A1 c1 A2 c2 t by simp, hxs] at hld
  rw [hxs] at hW hat ⊢
  obtain ⟨SA, hSA⟩ : ∃ SA, sumAtP t n s = SA := ⟨_, rfl⟩
  rw [hSA] at hsall ⊢
  have HW := Lib.hid hW
  have HG := Lib.hid hg
  have HB := Lib.hid B0
  have K0 := Lib.hid k0
  have HTX := Lib.hid htx
  have HPB := Lib.hid hpb
  have HSA := Lib.hid hsall
  have HLL := Lib.hid hLl
  clear hW hg B0 k0 htx hpb hsall hLl hpm hpl hil hil2 hSA hL hxs b0 h hgl
  go_enter Tryz.func14, Tryz.ntmps14
  go_upto_region 1 with fail
  rw [HW.out, HG.out]
  go_wp2_with fail
  with_reducible refine hat.mono ?_
  rintro e w1 ⟨v, u, rfl, hv, hu, hB1⟩
  obtain ⟨Av, Nv, cv, rfl⟩ := hv.formN
  have hN := hv.lenN
  have hrd := hv.rd
  have hB1w := HB.out.trans (hB1.mono HB.out.size)
  have k0 := K0.out w1 hB1
  have htx1 := HTX.out.below hB1
  have hS0 := sumTo_zero t L
  have hSN := HSA.out Nv hN.symm
  have hN16 : Nv ≤ 16 := by have := HLL.out; omega
  have HN := Lib.hid hN
  have HRD := Lib.hid hrd
  have HB1 := Lib.hid hB1w
  have HT1 := Lib.hid htx1
  have HSN := Lib.hid hSN
  clear hN hrd hB1w htx1 hSN hv hu hB1 HSA hat hld
  go_wp2_with fail
  rw [← hS0]
  have HS0 := Lib.hid hS0
  clear hS0
  go_loopg [9, 11, 21] Nv (fun kk q _ s wr => ∃ i : Nat, i + kk = Nv ∧ s = .int .i64 (i : Int) ∧ q = .int .u64 (sumTo t L i) ∧ w1 = wr)
  case atStart => exact ⟨0, by omega, rfl, rfl, rfl⟩
  case round =>
    obtain ⟨i, hi, rfl, rfl, rfl⟩ := hrel
    by_cases hlt : i < Nv
    · have hltI : (i : Int) < (Nv : Int) := by omega
      have hil : i < L.length := by rw [← HN.out]; exact hlt
      obtain ⟨g1, o1, rfl, _, s1⟩ := HRD.out.at hil
      have hsu := sumTo_succ t L hil
      obtain ⟨j, hj, hjl⟩ := HPB.out (L.getD i 0) (by simp [List.getD, hil])
      obtain ⟨g2, o2, B2, d2, rfl, _, hin⟩ := HT1.out.ins j hjl
      have hbd := HT1.out.bd.ins _ (List.getElem_mem hjl)
      have k33 := hin.cell 33 _ (inV_amL hbd _ _)
      rw [hj] at s1 hsu
      have hgd : t.ins.getD (j : Int).toNat default = t.ins[j] := by simp [List.getD, hjl]
      rw [hgd] at hsu
      have hab := hbd.am
      have hsb := sumTo_bd t L i
      obtain ⟨am, ham⟩ : ∃ a, (t.ins[j]).am = a := ⟨_, rfl⟩
      rw [ham] at hsu k33 hab
      obtain ⟨ni, hni⟩ : ∃ n, t.ins.length = n := ⟨_, rfl⟩
      rw [hni] at k0 hjl
      have hjI : (j : Int) < (ni : Int) := by omega
      have hj0 : (0 : Int) ≤ (j : Int) := by omega
      obtain ⟨si, hsi⟩ : ∃ x, sumTo t L i = x := ⟨_, rfl⟩
      rw [hsi] at hsu hsb ⊢
      have HSU := Lib.hid hsu
      clear hsu hin hgd ham hni hsi hj hbd
      go_wp2_with fail
      go_roundg (Nv - (i + 1))
      case measure => omega
      case rel => exact ⟨i + 1, by omega, by go_num, by rw [HSU.out], rfl⟩
    · obtain rfl : i = Nv := by omega
      have hltI : ¬ (i : Int) < (i : Int) := by omega
      rw [HSN.out]
      go_wp2_with fail
      go_ret
      exact ⟨rfl, HB1.out⟩
end Go.Proofs.YtmflhidmhefljaaGreatDoor
end

section
namespace Go.Proofs.YtmflhidmhefljaaGreatDoor
open Go.RowKit Go.Shelf
set_option maxRecDepth 100000
attribute [local go_sem ↓] ldTx_of ldCert_of stCert_of alCert_of ld123 st123 al123

/-- What check answers. -/
def checkR (nil : Bool) (n : Int) (t : TxD) (N : Nat) (many : Int) : Int :=
  if nil = true ∨ n < 1 ∨ 64 < n then 1 else if checkP t ≠ 0 then checkP t else if (N : Int) ≠ many then 27 else 0

set_option maxHeartbeats 4000000 in
theorem setcheck_any (pr : Option Addr) (A1 : Option Addr) (c1 : Nat) (A2 : Option Addr) (c2 : Nat) (t : TxD) (n many : Int) (A : Option Addr) (N c : Nat) (w : World) (h : TxAt w A1 A2 t) (hl : t.ins.length ≤ 1000000) (hl2 : t.outs.length ≤ 1000000) :
    Calls Tryz.prog 25 #[.pointer pr, .agg (txV A1 c1 A2 c2 t), .int .i64 n, .int .i64 many, .slice A N c] w fun e w' => e = .returned (.int .i64 (checkR pr.isNone n t N many)) ∧ Below w.heap.size w w' := by
  have b0 := Blk.new w 27 (txV A1 c1 A2 c2 t)
  have B0 : Below w.heap.size w (w.alloc (.cells (txV A1 c1 A2 c2 t) 27)) := (Below.refl _ w).alloc (Nat.le_refl _) _
  obtain ⟨W, hW⟩ : ∃ W, w.alloc (.cells (txV A1 c1 A2 c2 t) 27) = W := ⟨_, rfl⟩
  rw [hW] at b0 B0
  obtain ⟨g, hg⟩ : ∃ g, w.heap.size = g := ⟨_, rfl⟩
  rw [hg] at b0
  have hld := LDs_all (P := Tryz.prog) uTx iTx (txV A1 c1 A2 c2 t).toList (by simpa using b0) rfl
  have hck := txcheck_any A1 c1 A2 c2 t W (h.below B0) hl hl2
  obtain ⟨xs, hxs⟩ : ∃ xs, txV A1 c1 A2 c2 t = xs := ⟨_, rfl⟩
  rw [show (txV A1 c1 A2 c2 t).toList.toArray = txV A1 c1 A2 c2 t by simp, hxs] at hld
  rw [hxs] at hW hck ⊢
  obtain ⟨R, hR⟩ : ∃ R, checkP t = R := ⟨_, rfl⟩
  rw [hR] at hck
  have hcr : checkR pr.isNone n t N many = (if pr.isNone = true ∨ n < 1 ∨ 64 < n then 1 else if R ≠ 0 then R else if (N : Int) ≠ many then 27 else 0) := by unfold checkR; rw [hR]
  rw [hcr]
  have HW := Lib.hid hW
  have HG := Lib.hid hg
  have HB := Lib.hid B0
  clear hW hg B0 hxs hR hcr b0 h hl hl2
  cases pr with
  | none =>
    rw [if_pos (.inl rfl)]
    go_enter Tryz.func25, Tryz.ntmps25
    go_upto_region 1 with fail
    rw [HW.out, HG.out]
    go_wp2_with fail
    go_ret
    exact ⟨rfl, HB.out⟩
  | some pa =>
    by_cases h1 : n < 1
    · rw [if_pos (.inr (.inl h1))]
      go_enter Tryz.func25, Tryz.ntmps25
      go_upto_region 1 with fail
      rw [HW.out, HG.out]
      go_wp2_with fail
      go_ret
      exact ⟨rfl, HB.out⟩
    · by_cases h2 : 64 < n
      · rw [if_pos (.inr (.inr h2))]
        go_enter Tryz.func25, Tryz.ntmps25
        go_upto_region 1 with fail
        rw [HW.out, HG.out]
        go_wp2_with fail
        go_ret
        exact ⟨rfl, HB.out⟩
      · rw [if_neg (by simp; omega)]
        by_cases h3 : R = 0
        · subst h3
          rw [if_neg (by simp)]
          by_cases h4 : (N : Int) = many
          · rw [if_neg (by simpa using h4)]
            have h4b : ((N : Int) != many) = false := by simpa using h4
            clear h4
            go_enter Tryz.func25, Tryz.ntmps25
            go_upto_region 1 with fail
            rw [HW.out, HG.out]
            go_wp2_with fail
            with_reducible refine hck.mono ?_
            rintro e w1 ⟨rfl, hB1⟩
            have HB1 := Lib.hid hB1
            clear hB1 hck hld
            go_wp2_with fail
            go_ret
            exact ⟨rfl, HB.out.trans (HB1.out.mono HB.out.size)⟩
          · rw [if_pos h4]
            have h4b : ((N : Int) != many) = true := by simpa using h4
            clear h4
            go_enter Tryz.func25, Tryz.ntmps25
            go_upto_region 1 with fail
            rw [HW.out, HG.out]
            go_wp2_with fail
            with_reducible refine hck.mono ?_
            rintro e w1 ⟨rfl, hB1⟩
            have HB1 := Lib.hid hB1
            clear hB1 hck hld
            go_wp2_with fail
            go_ret
            exact ⟨rfl, HB.out.trans (HB1.out.mono HB.out.size)⟩
        · rw [if_pos h3]
          have h3b : (R != 0) = true := by simpa using h3
          clear h3
          go_enter Tryz.func25, Tryz.ntmps25
          go_upto_region 1 with fail
          rw [HW.out, HG.out]
          go_wp2_with fail
          with_reducible refine hck.mono ?_
          rintro e w1 ⟨rfl, hB1⟩
          have HB1 := Lib.hid hB1
          clear hB1 hck hld
          go_wp2_with fail
          go_ret
          exact ⟨rfl, HB.out.trans (HB1.out.mono HB.out.size)⟩

theorem allGo_iff (seed : List Int) (t : TxD) (n : Int) : ∀ (S : List Int) (L : List CertD), L.length = S.length → (allGo seed t n S L = true ↔ ∀ j, j < L.length → allOne seed t n (S.getD j 0) (L.getD j default) = true)
  | [], [], _ => by simp [allGo]
  | s :: S, c :: L, h => by
    have ih := allGo_iff seed t n S L (by simpa using h)
    rw [allGo, Bool.and_eq_true, ih]
    constructor
    · rintro ⟨h0, h1⟩ j hj
      cases j with
      | zero => simpa using h0
      | succ j => simpa using h1 j (by simpa using hj)
    · intro h
      exact ⟨by simpa using h 0 (by simp), fun j hj => by simpa using h (j + 1) (by simpa using hj)⟩
  | [], c :: L, h => by simp at h
  | s :: S, [], h => by simp at h

theorem certV_am {c : CertD} (h : c.Bd) (A : Option Addr) (cap : Nat) : (certV c A cap)[34]? = some (.int .u64 c.e.am) := by
  have h1 : (bys c.e.tx).length = 32 := by rw [bys_length, h.e.tx.1]
  unfold certV entV headV
  simp [h1]

set_option maxHeartbeats 8000000 in
theorem setall_any (p k : Nat) (seed : List Int) (A1 : Option Addr) (c1 : Nat) (A2 : Option Addr) (c2 : Nat) (t : TxD) (A : Option Addr) (c : Nat) (l : List CertD) (w : World) (hr : RingAt w p seed k) (h1k : 1 ≤ k) (hk : k ≤ 64) (h : TxAt w A1 A2 t) (hgl : Glob w) (hl : t.ins.length ≤ 1000000) (hl2 : t.outs.length ≤ 1000000)
    (hC : CertsAt w A l) (hpl : ∀ c ∈ l, c.path.length ≤ 1000000) (hll : l.length ≤ 1000000) :
    Calls Tryz.prog 10 #[.pointer (some ⟨p, 0, none⟩), .agg (txV A1 c1 A2 c2 t), .int .i64 (k : Int), .slice A l.length c] w fun e w' => e = .returned (.int .i64 (accP' seed t k l)) ∧ Below w.heap.size w w' := by
  have b0 := Blk.new w 27 (txV A1 c1 A2 c2 t)
  have B0 : Below w.heap.size w (w.alloc (.cells (txV A1 c1 A2 c2 t) 27)) := (Below.refl _ w).alloc (Nat.le_refl _) _
  obtain ⟨W, hW⟩ : ∃ W, w.alloc (.cells (txV A1 c1 A2 c2 t) 27) = W := ⟨_, rfl⟩
  rw [hW] at b0 B0
  obtain ⟨g, hg⟩ : ∃ g, w.heap.size = g := ⟨_, rfl⟩
  rw [hg] at b0
  have hld := fun X (hX : Below W.heap.size W X) => LDs_all (P := Tryz.prog) uTx iTx (w := X) (txV A1 c1 A2 c2 t).toList (by simpa using b0.fr (Fr.of_below hX) (by have := b0.lt; omega)) rfl
  have hld0 := hld W (Below.refl _ _)
  have hins := mins_any A1 c1 A2 c2 t (k : Int) (by omega) W (h.below B0) (hgl.below B0) hl hl2
  have hck := fun X (hX : Below W.heap.size W X) many => setcheck_any (some ⟨p, 0, none⟩) A1 c1 A2 c2 t (k : Int) many A l.length c X ((h.below B0).below hX) hl hl2
  have hid := fun X (hX : Below W.heap.size W X) => txid_any A1 c1 A2 c2 t X ((h.below B0).below hX) ((hgl.below B0).below hX) hl hl2
  have hsum := fun X (hX : Below W.heap.size W X) s => setsum_any A1 c1 A2 c2 t (k : Int) s (by omega) X ((h.below B0).below hX) ((hgl.below B0).below hX) hl hl2
  have hrW := hr.below B0
  have hCW := hC.below B0
  have hgW := hgl.below B0
  have hlen64 := eachP_len (insP t (k : Int))
  have hag := allGo_iff seed t (k : Int) (eachP (insP t (k : Int))) l
  have hall : ∀ s c, allOne seed t (k : Int) s c = (isP seed k c && (decide (c.e.kind = 1) && (decide (c.e.sh = s) && decide (c.e.tx = idP t))) && decide (c.e.am = sumAtP t k s)) := fun s c => by
    unfold allOne
    simp only [Bool.and_assoc]
  have hDi : Dig (idP t) := ⟨idP_len t, idP_bd t⟩
  have hres : accP' seed t (k : Int) l = if checkP t ≠ 0 then checkP t else if l.length ≠ (eachP (insP t (k : Int))).length then 27 else if allGo seed t (k : Int) (eachP (insP t (k : Int))) l = true then 0 else 16 := by
    unfold accP'
    rw [if_neg (by omega)]
  have hcr : ∀ N : Nat, checkR false (k : Int) t l.length N = if checkP t ≠ 0 then checkP t else if l.length ≠ N then 27 else 0 := fun N => by
    unfold checkR
    rw [if_neg (by simp; omega)]
    by_cases h0 : checkP t = 0
    · simp only [h0, ne_eq, not_true_eq_false, if_false]
      by_cases h1 : l.length = N
      · subst h1
        simp
      · rw [if_pos (by omega), if_pos h1]
    · rw [if_pos h0, if_pos h0]
  rw [hres]
  obtain ⟨S, hS⟩ : ∃ S, eachP (insP t (k : Int)) = S := ⟨_, rfl⟩
  rw [hS] at hins hlen64 hag ⊢
  obtain ⟨D, hD⟩ : ∃ D, idP t = D := ⟨_, rfl⟩
  simp only [hD] at hid hall hDi
  obtain ⟨xs, hxs⟩ : ∃ xs, txV A1 c1 A2 c2 t = xs := ⟨_, rfl⟩
  rw [show (txV A1 c1 A2 c2 t).toList.toArray = txV A1 c1 A2 c2 t by simp, hxs] at hld0
  simp only [hxs] at hld
  rw [hxs] at hW hins ⊢
  simp only [hxs] at hck hid hsum
  obtain ⟨N, hN⟩ : ∃ N, l.length = N := ⟨_, rfl⟩
  simp only [hN] at hck hcr
  rw [hN] at hll hag ⊢
  obtain ⟨R, hR⟩ : ∃ R, checkP t = R := ⟨_, rfl⟩
  simp only [hR] at hcr
  rw [hR]
  obtain ⟨RES, hRES⟩ : ∃ r, (if R ≠ 0 then R else if N ≠ S.length then 27 else if allGo seed t (k : Int) S l = true then 0 else 16) = r := ⟨_, rfl⟩
  rw [hRES]
  have hDl : (bys D).length = 32 := by rw [bys_length, hDi.1]
  obtain ⟨Z, hal, hst0, hz⟩ := alstZ (P := Tryz.prog) (t := 41) iId zIdS
  have hst := fun X => hst0 X (bys D) hDl (bys_one _)
  have HW := Lib.hid hW
  have HG := Lib.hid hg
  have HB := Lib.hid B0
  have HLD := Lib.hid hld
  have HCK := Lib.hid hck
  have HID := Lib.hid hid
  have HSUM := Lib.hid hsum
  have HR := Lib.hid hrW
  have HC := Lib.hid hCW
  have HGL := Lib.hid hgW
  have HAG := Lib.hid hag
  have HALL := Lib.hid hall
  have HDI := Lib.hid hDi
  have HCR := Lib.hid hcr
  have HN := Lib.hid hN
  have HPL := Lib.hid hpl
  have HDL := Lib.hid hDl
  have HL64 := Lib.hid hlen64
  have HBK := Lib.hid b0
  have HRES := Lib.hid hRES
  clear hW hg B0 hld hck hid hsum hrW hCW hgW hag hall hDi hcr hN hpl hDl hlen64 b0 hRES hR hD hS hxs h hgl hr hC hres hst0 hz
  go_enter Tryz.func10, Tryz.ntmps10
  go_upto_region 1 with fail
  rw [HW.out, HG.out]
  go_wp2_with fail
  with_reducible refine hins.mono ?_
  rintro e w1 ⟨As, cs, rfl, hrd, hB1⟩
  obtain ⟨M, hM⟩ : ∃ M, S.length = M := ⟨_, rfl⟩
  rw [hM] at HAG HL64 HRES ⊢
  have hld1 := HLD.out w1 hB1
  have hck := HCK.out w1 hB1 (M : Int)
  rw [show (some (⟨p, 0, none⟩ : Addr)).isNone = false from rfl, HCR.out M] at hck
  have HRD := Lib.hid hrd
  have HB1 := Lib.hid hB1
  have HM := Lib.hid hM
  clear hrd hB1 hM hins hld0
  by_cases hR0 : R = 0
  · subst hR0
    simp only [ne_eq, not_true_eq_false, if_false] at hck HRES
    by_cases hNM : N = M
    · subst hNM
      simp only [not_true_eq_false, if_false] at hck HRES
      go_wp2_with fail
      with_reducible refine hck.mono ?_
      rintro e w2 ⟨rfl, hB2⟩
      have hB2W := HB1.out.trans (hB2.mono HB1.out.size)
      have hld2 := HLD.out w2 hB2W
      have hidd := HID.out w2 hB2W
      have hrd2 := HRD.out.below hB2
      have HB2 := Lib.hid hB2W
      have HRD2 := Lib.hid hrd2
      clear hB2W hrd2 hB2 hck hld1
      go_wp2_with fail
      with_reducible refine hidd.mono ?_
      rintro e w3 ⟨rfl, hB3⟩
      have hB3W := HB2.out.trans (hB3.mono HB2.out.size)
      have hst3 := hst w3
      have q1 := Blk.new w3 41 (bys D).toArray
      have q2 := hB3W.alloc hB3W.size (.cells (bys D).toArray 41)
      have q3 := (HRD2.out.below hB3).below ((Below.refl _ w3).alloc (Nat.le_refl _) (.cells (bys D).toArray 41))
      obtain ⟨h, hh⟩ : ∃ h, w3.heap.size = h := ⟨_, rfl⟩
      obtain ⟨Y, hY⟩ : ∃ Y, w3.alloc (.cells (bys D).toArray 41) = Y := ⟨_, rfl⟩
      rw [hY] at q1 q2 q3 hst3
      rw [hh] at q1
      have hldI := fun X (hX : Below Y.heap.size Y X) => LDs_all (P := Tryz.prog) uIdA iId (bys D) (q1.fr (Fr.of_below hX) (by have := q1.lt; omega)) HDL.out
      have HHH := Lib.hid hh
      have HYB := Lib.hid q2
      have HRD3 := Lib.hid q3
      have HLI := Lib.hid hldI
      clear hh q2 q3 hldI hB3 hB3W q1 hY hidd hld2 hst
      go_upto_region 7 with fail
      rw [HHH.out]
      go_loopg [12, 30] N (fun kk _ s wr => ∃ i : Nat, i + kk = N ∧ s = .int .i64 (i : Int) ∧ (∀ j, j < i → allOne seed t (k : Int) (S.getD j 0) (l.getD j default) = true) ∧ Below Y.heap.size Y wr)
      case atStart => exact ⟨0, by omega, rfl, fun j hj => by omega, Below.refl _ _⟩
      case round =>
        obtain ⟨i, hi, rfl, hok, hBr⟩ := hrel
        by_cases hlt : i < N
        · have hltI : (i : Int) < (N : Int) := by omega
          have hil : i < l.length := by rw [HN.out]; exact hlt
          obtain ⟨g1, o1, rfl, hg1, s1⟩ := (HRD3.out.below hBr).at (i := i) (by rw [HM.out]; exact hlt)
          obtain ⟨g2, o2, B2, d2, rfl, hg2, hct⟩ := HC.out i hil
          have hcb := HYB.out.trans (hBr.mono HYB.out.size)
          have F1 := fun X (hX : Below wr.heap.size wr X) => (hct.below hg2 (hcb.trans (hX.mono hcb.size))).ld
          have F2 := fun X (hX : Below wr.heap.size wr X) => (hX.cell (p := ⟨g1, o1 + i, none⟩) hg1).trans s1
          have F3 := fun X (hX : Below wr.heap.size wr X) => HLI.out X (hBr.trans (hX.mono hBr.size))
          have F4 := fun X (hX : Below wr.heap.size wr X) => (hct.below hg2 (hcb.trans (hX.mono hcb.size))).cell 34 _ (certV_am hct.bd _ _)
          have F5 := fun X (hX : Below wr.heap.size wr X) => HLD.out X (hcb.trans (hX.mono hcb.size))
          have hpr := fun X (hX : Below wr.heap.size wr X) => proves_any p k seed B2 d2 l[i] 1 (S.getD i 0) D HDI.out X (HR.out.below (hcb.trans (hX.mono hcb.size))) hk hct.bd hct.room (HPL.out _ (List.getElem_mem hil)) (hct.path.below (hcb.trans (hX.mono hcb.size))) (HGL.out.below (hcb.trans (hX.mono hcb.size)))
          have hsm := fun X (hX : Below wr.heap.size wr X) => HSUM.out X (hcb.trans (hX.mono hcb.size)) (S.getD i 0)
          have hal1 := HALL.out (S.getD i 0) l[i]
          have hgd : l.getD i default = l[i] := by simp [List.getD, hil]
          obtain ⟨PR, hPR⟩ : ∃ P, (isP seed k l[i] && (decide (l[i].e.kind = 1) && (decide (l[i].e.sh = S.getD i 0) && decide (l[i].e.tx = D)))) = P := ⟨_, rfl⟩
          simp only [hPR] at hpr
          rw [hPR] at hal1
          obtain ⟨cv, hcv⟩ : ∃ x, (certV l[i] B2 d2).toArray = x := ⟨_, rfl⟩
          simp only [hcv] at F1 hpr
          obtain ⟨am, ham⟩ : ∃ a, l[i].e.am = a := ⟨_, rfl⟩
          simp only [ham] at F4
          rw [ham] at hal1
          obtain ⟨si, hsi⟩ : ∃ s, S.getD i 0 = s := ⟨_, rfl⟩
          simp only [hsi] at F2 hpr hsm
          rw [hsi] at hal1
          obtain ⟨sm, hsm2⟩ : ∃ s, sumAtP t (k : Int) si = s := ⟨_, rfl⟩
          simp only [hsm2] at hsm
          rw [hsm2] at hal1
          obtain ⟨S0, hS0⟩ : ∃ S0 : World → Prop, (fun X => (LDs 48 (.pointer (some ⟨g2, o2 + i * 137, none⟩))).run Tryz.prog X = .ok (.agg cv) X ∧ X.cell? ⟨g1, o1 + i, none⟩ = some (.int .i64 si) ∧
            (LDs 41 (.pointer (some ⟨h, 0, none⟩))).run Tryz.prog X = .ok (.agg (bys D).toArray) X ∧ X.cell? ⟨g2, o2 + i * 137 + 34, none⟩ = some (.int .u64 am) ∧ (LDs 27 (.pointer (some ⟨g, 0, none⟩))).run Tryz.prog X = .ok (.agg xs) X) = S0 := ⟨_, rfl⟩
          have hSS : ∀ X, Below wr.heap.size wr X → S0 X := fun X hX => by rw [← hS0]; exact ⟨F1 X hX, F2 X hX, F3 X hX, F4 X hX, F5 X hX⟩
          have hi0 : (0 : Int) ≤ (i : Int) := by omega
          have hp1 := hpr wr.drew (Below.refl _ _).drew
          have HS0 := Lib.hid hS0
          have HSS := Lib.hid hSS
          have HAL1 := Lib.hid hal1
          have HGD := Lib.hid hgd
          have HSI := Lib.hid hsi
          have HOK := Lib.hid hok
          have HBR := Lib.hid hBr
          have HSM := Lib.hid hsm
          clear hS0 hSS hal1 hgd hsi hok hBr hsm hct hcb F1 F2 F3 F4 F5 hpr hPR hcv ham hsm2 s1
          cases PR with
          | true =>
            rw [Bool.true_and] at HAL1
            by_cases has : am = sm
            · have hasb : (am != sm) = false := by simpa using has
              rw [show decide (am = sm) = true by simpa using has] at HAL1
              clear has
              go_upto_region 9 with fail
              refine wp_txO [(0, 3), (1, 3), (2, 3), (3, 3), (5, 3), (6, 3), (7, 3), (4, 0), (8, 0), (9, 0), (10, 1), (11, 3), (12, 3), (13, 3), (14, 3), (15, 3), (16, 3), (17, 3), (20, 3), (21, 3), (22, 3), (23, 3), (18, 0), (19, 0), (24, 0), (25, 1), (26, 3), (27, 3)] S0 (by kernel_rfl) (by kernel_rfl) (by kernel_rfl) (by kernel_rfl) (HSS.out _ (Below.refl _ _).drew) ?_
              iterate 7 (with_reducible refine wpTxO_evN (o := ?_) (v := ?_) (a' := ?_) (by with_unfolding_all rfl) (by with_unfolding_all rfl) (fun W' => ?_) ?_ ?_; rotate_left 2; (focus (go_simp <;> with_reducible rfl)); focus (go_simp <;> with_reducible rfl))
              iterate 3 (with_reducible refine wpTxO_takeN (o := ?_) (v := ?_) (a' := ?_) (by with_unfolding_all rfl) (by with_unfolding_all rfl) (fun W' hS => ?_) ?_ ?_; rotate_left 2; (focus (rw [← HS0.out] at hS; obtain ⟨t1, t2, t3, t4, t5⟩ := hS; go_simp <;> with_reducible rfl)); focus (go_simp <;> with_reducible rfl))
              with_reducible refine wpTxO_want (o := ?_) (by with_unfolding_all rfl) (by with_unfolding_all rfl) (fun K hK => ?_)
              try simp only [List.getElem_toArray, List.getElem_cons_succ, List.getElem_cons_zero]
              go_simp
              with_reducible refine hp1.mono ?_
              rintro e w10 ⟨rfl, hB10⟩
              have hB10W : Below wr.heap.size wr w10 := (Below.refl _ wr).drew.trans hB10
              have hs10 := HSM.out w10 hB10W
              have HB10 := Lib.hid hB10W
              clear hB10W hB10 hp1
              with_reducible refine hK _ _ (HSS.out _ HB10.out) ?_
              clear hK K
              iterate 11 (with_reducible refine wpTxO_evN (o := ?_) (v := ?_) (a' := ?_) (by with_unfolding_all rfl) (by with_unfolding_all rfl) (fun W' => ?_) ?_ ?_; rotate_left 2; (focus (go_simp <;> with_reducible rfl)); focus (go_simp <;> with_reducible rfl))
              iterate 3 (with_reducible refine wpTxO_takeN (o := ?_) (v := ?_) (a' := ?_) (by with_unfolding_all rfl) (by with_unfolding_all rfl) (fun W' hS => ?_) ?_ ?_; rotate_left 2; (focus (rw [← HS0.out] at hS; obtain ⟨t1, t2, t3, t4, t5⟩ := hS; go_simp <;> with_reducible rfl)); focus (go_simp <;> with_reducible rfl))
              with_reducible refine wpTxO_want (o := ?_) (by with_unfolding_all rfl) (by with_unfolding_all rfl) (fun K hK => ?_)
              try simp only [List.getElem_toArray, List.getElem_cons_succ, List.getElem_cons_zero]
              go_simp
              with_reducible refine hs10.mono ?_
              rintro e w25 ⟨rfl, hB25⟩
              have hB25W := HB10.out.trans (hB25.mono HB10.out.size)
              have HB25 := Lib.hid hB25W
              clear hB25W hB25 hs10
              with_reducible refine hK _ _ (HSS.out _ HB25.out) ?_
              clear hK K
              iterate 2 (with_reducible refine wpTxO_evN (o := ?_) (v := ?_) (a' := ?_) (by with_unfolding_all rfl) (by with_unfolding_all rfl) (fun W' => ?_) ?_ ?_; rotate_left 2; (focus (go_simp <;> with_reducible rfl)); focus (go_simp <;> with_reducible rfl))
              with_reducible refine wpTxO_nil ?_
              rw [noPan_normal]
              go_wp2_with fail
              go_roundg (N - (i + 1))
              case measure => omega
              case rel =>
                refine ⟨i + 1, by omega, by go_num, fun j hj => ?_, HBR.out.trans (HB25.out.mono HBR.out.size)⟩
                by_cases e : j = i
                · subst e; rw [HGD.out, HSI.out]; exact HAL1.out
                · exact HOK.out j (by omega)
            · have hasb : (am != sm) = true := by simpa using has
              rw [show decide (am = sm) = false by simpa using has] at HAL1
              have hR16 : RES = 16 := by
                rw [← HRES.out, if_neg]
                intro e
                have := (HAG.out (by simp)).1 e i hlt
                rw [HGD.out, HSI.out, HAL1.out] at this
                cases this
              subst hR16
              clear has HRES
              go_upto_region 9 with fail
              refine wp_txO [(0, 3), (1, 3), (2, 3), (3, 3), (5, 3), (6, 3), (7, 3), (4, 0), (8, 0), (9, 0), (10, 1), (11, 3), (12, 3), (13, 3), (14, 3), (15, 3), (16, 3), (17, 3), (20, 3), (21, 3), (22, 3), (23, 3), (18, 0), (19, 0), (24, 0), (25, 1), (26, 3), (27, 3)] S0 (by kernel_rfl) (by kernel_rfl) (by kernel_rfl) (by kernel_rfl) (HSS.out _ (Below.refl _ _).drew) ?_
              iterate 7 (with_reducible refine wpTxO_evN (o := ?_) (v := ?_) (a' := ?_) (by with_unfolding_all rfl) (by with_unfolding_all rfl) (fun W' => ?_) ?_ ?_; rotate_left 2; (focus (go_simp <;> with_reducible rfl)); focus (go_simp <;> with_reducible rfl))
              iterate 3 (with_reducible refine wpTxO_takeN (o := ?_) (v := ?_) (a' := ?_) (by with_unfolding_all rfl) (by with_unfolding_all rfl) (fun W' hS => ?_) ?_ ?_; rotate_left 2; (focus (rw [← HS0.out] at hS; obtain ⟨t1, t2, t3, t4, t5⟩ := hS; go_simp <;> with_reducible rfl)); focus (go_simp <;> with_reducible rfl))
              with_reducible refine wpTxO_want (o := ?_) (by with_unfolding_all rfl) (by with_unfolding_all rfl) (fun K hK => ?_)
              try simp only [List.getElem_toArray, List.getElem_cons_succ, List.getElem_cons_zero]
              go_simp
              with_reducible refine hp1.mono ?_
              rintro e w10 ⟨rfl, hB10⟩
              have hB10W : Below wr.heap.size wr w10 := (Below.refl _ wr).drew.trans hB10
              have hs10 := HSM.out w10 hB10W
              have HB10 := Lib.hid hB10W
              clear hB10W hB10 hp1
              with_reducible refine hK _ _ (HSS.out _ HB10.out) ?_
              clear hK K
              iterate 11 (with_reducible refine wpTxO_evN (o := ?_) (v := ?_) (a' := ?_) (by with_unfolding_all rfl) (by with_unfolding_all rfl) (fun W' => ?_) ?_ ?_; rotate_left 2; (focus (go_simp <;> with_reducible rfl)); focus (go_simp <;> with_reducible rfl))
              iterate 3 (with_reducible refine wpTxO_takeN (o := ?_) (v := ?_) (a' := ?_) (by with_unfolding_all rfl) (by with_unfolding_all rfl) (fun W' hS => ?_) ?_ ?_; rotate_left 2; (focus (rw [← HS0.out] at hS; obtain ⟨t1, t2, t3, t4, t5⟩ := hS; go_simp <;> with_reducible rfl)); focus (go_simp <;> with_reducible rfl))
              with_reducible refine wpTxO_want (o := ?_) (by with_unfolding_all rfl) (by with_unfolding_all rfl) (fun K hK => ?_)
              try simp only [List.getElem_toArray, List.getElem_cons_succ, List.getElem_cons_zero]
              go_simp
              with_reducible refine hs10.mono ?_
              rintro e w25 ⟨rfl, hB25⟩
              have hB25W := HB10.out.trans (hB25.mono HB10.out.size)
              have HB25 := Lib.hid hB25W
              clear hB25W hB25 hs10
              with_reducible refine hK _ _ (HSS.out _ HB25.out) ?_
              clear hK K
              iterate 2 (with_reducible refine wpTxO_evN (o := ?_) (v := ?_) (a' := ?_) (by with_unfolding_all rfl) (by with_unfolding_all rfl) (fun W' => ?_) ?_ ?_; rotate_left 2; (focus (go_simp <;> with_reducible rfl)); focus (go_simp <;> with_reducible rfl))
              with_reducible refine wpTxO_nil ?_
              rw [noPan_normal]
              go_wp2_with fail
              go_ret
              exact ⟨rfl, HB.out.trans ((HYB.out.trans ((HBR.out.trans (HB25.out.mono HBR.out.size)).mono HYB.out.size)).mono HB.out.size)⟩
          | false =>
            rw [Bool.false_and] at HAL1
            have hR16 : RES = 16 := by
              rw [← HRES.out, if_neg]
              intro e
              have := (HAG.out (by simp)).1 e i hlt
              rw [HGD.out, HSI.out, HAL1.out] at this
              cases this
            subst hR16
            clear HRES
            go_upto_region 9 with fail
            refine wp_txO [(0, 3), (1, 3), (2, 3), (3, 3), (5, 3), (6, 3), (7, 3), (4, 0), (8, 0), (9, 0), (10, 2), (11, 3), (12, 3), (13, 3), (14, 3), (15, 3), (16, 3), (17, 3), (18, 3), (19, 3), (20, 3), (21, 3), (22, 3), (23, 3), (24, 3), (25, 3), (26, 3), (27, 3)] S0 (by kernel_rfl) (by kernel_rfl) (by kernel_rfl) (by kernel_rfl) (HSS.out _ (Below.refl _ _).drew) ?_
            iterate 7 (with_reducible refine wpTxO_evN (o := ?_) (v := ?_) (a' := ?_) (by with_unfolding_all rfl) (by with_unfolding_all rfl) (fun W' => ?_) ?_ ?_; rotate_left 2; (focus (go_simp <;> with_reducible rfl)); focus (go_simp <;> with_reducible rfl))
            iterate 3 (with_reducible refine wpTxO_takeN (o := ?_) (v := ?_) (a' := ?_) (by with_unfolding_all rfl) (by with_unfolding_all rfl) (fun W' hS => ?_) ?_ ?_; rotate_left 2; (focus (rw [← HS0.out] at hS; obtain ⟨t1, t2, t3, t4, t5⟩ := hS; go_simp <;> with_reducible rfl)); focus (go_simp <;> with_reducible rfl))
            with_reducible refine wpTxO_last (o := ?_) (by with_unfolding_all rfl) (by with_unfolding_all rfl) (fun K hK => ?_)
            try simp only [List.getElem_toArray, List.getElem_cons_succ, List.getElem_cons_zero]
            go_simp
            with_reducible refine hp1.mono ?_
            rintro e w10 ⟨rfl, hB10⟩
            have hB10W : Below wr.heap.size wr w10 := (Below.refl _ wr).drew.trans hB10
            have HB10 := Lib.hid hB10W
            clear hB10W hB10 hp1
            with_reducible refine hK _ _ ?_
            clear hK K
            iterate 2 (with_reducible refine wpTxO_evN (o := ?_) (v := ?_) (a' := ?_) (by with_unfolding_all rfl) (by with_unfolding_all rfl) (fun W' => ?_) ?_ ?_; rotate_left 2; (focus (go_simp <;> with_reducible rfl)); focus (go_simp <;> with_reducible rfl))
            iterate 14 (with_reducible refine wpTxO_evd (o := ?_) (a' := ?_) (by with_unfolding_all rfl) (by with_unfolding_all rfl) ?_ ?_; rotate_left; focus (go_simp <;> with_reducible rfl))
            iterate 1 (with_reducible refine wpTxO_evN (o := ?_) (v := ?_) (a' := ?_) (by with_unfolding_all rfl) (by with_unfolding_all rfl) (fun W' => ?_) ?_ ?_; rotate_left 2; (focus (go_simp <;> with_reducible rfl)); focus (go_simp <;> with_reducible rfl))
            with_reducible refine wpTxO_nil ?_
            rw [noPan_normal]
            go_wp2_with fail
            go_ret
            exact ⟨rfl, HB.out.trans ((HYB.out.trans ((HBR.out.trans (HB10.out.mono HBR.out.size)).mono HYB.out.size)).mono HB.out.size)⟩
        · obtain rfl : i = N := by omega
          have hltI : ¬ (i : Int) < (i : Int) := by omega
          have hR1 : RES = 0 := by rw [← HRES.out, if_pos ((HAG.out (by simp)).2 hok)]
          subst hR1
          have HBR := Lib.hid hBr
          clear hBr hok
          go_wp2_with fail
          go_ret
          exact ⟨rfl, HB.out.trans ((HYB.out.trans (HBR.out.mono HYB.out.size)).mono HB.out.size)⟩
    · simp only [hNM, not_false_eq_true, if_true] at hck HRES
      have hR1 : RES = 27 := HRES.out.symm
      subst hR1
      go_wp2_with fail
      with_reducible refine hck.mono ?_
      rintro e w2 ⟨rfl, hB2⟩
      have HB2 := Lib.hid hB2
      clear hB2 hck hld1
      go_wp2_with fail
      go_ret
      exact ⟨rfl, HB.out.trans ((HB1.out.trans (HB2.out.mono HB1.out.size)).mono HB.out.size)⟩
  · simp only [ne_eq, hR0, not_false_eq_true, if_true] at hck HRES
    have hR1 : RES = R := HRES.out.symm
    subst hR1
    have h3b : (RES != 0) = true := by simpa using hR0
    clear hR0 HRES
    go_wp2_with fail
    with_reducible refine hck.mono ?_
    rintro e w2 ⟨rfl, hB2⟩
    have HB2 := Lib.hid hB2
    clear hB2 hck hld1
    go_wp2_with fail
    go_ret
    exact ⟨rfl, HB.out.trans ((HB1.out.trans (HB2.out.mono HB1.out.size)).mono HB.out.size)⟩
end Go.Proofs.YtmflhidmhefljaaGreatDoor
end

section
namespace Go.Proofs.YtmflhidmhefljaaGreatDoor
open Go.RowKit Go.Shelf
set_option maxRecDepth 100000
attribute [local go_sem ↓] ldTx_of ldCert_of stCert_of alCert_of ld123 st123 al123

theorem containsI_any (A : Option Addr) (c : Nat) (l : List Int) (x : Int) (w : World) (h : RdW .i64 w A l) (hl : l.length ≤ 1000000) :
    Calls Tryz.prog 30 #[.slice A l.length c, .int .i64 x] w fun e w' => e = .returned (.bool (l.contains x)) ∧ w' = w := by
  rcases Nat.eq_zero_or_pos l.length with h0 | h0
  · obtain rfl := List.length_eq_zero_iff.1 h0
    exact AnyE.slices_Contains_empty Tryz.laysCI A c (.int .i64 x) w
  · obtain ⟨g, off, rfl, hg, hc⟩ := h h0
    have := AnyE.slices_Contains Tryz.laysCI (Value.int .i64) (fun x y => x == y) (EqlAt.int _ _ .i64) g off l.length c l x w (Nat.le_refl _) (by omega) (fun j hj => hc j _ (by simp [getElem!_pos, hj]))
    rw [List.take_length] at this
    have e : (l.any fun y => x == y) = l.contains x := by
      rw [Bool.eq_iff_iff]
      simp
    rw [e] at this
    exact this

theorem proves_own (p k : Nat) (seed : List Int) (A : Option Addr) (cap : Nat) (c : CertD) (kd : Int) (id : List Int) (hid : Dig id) (w : World) (hr : RingAt w p seed k) (hk : k ≤ 64) (hc : c.Bd) (hcap : c.path.length ≤ cap) (hpl : c.path.length ≤ 1000000) (hP : RdR 32 w A (c.path.map bys)) (hgl : Glob w) :
    Calls Tryz.prog 27 #[.pointer (some ⟨p, 0, none⟩), .agg (certV c A cap).toArray, .int .i64 kd, .int .i64 c.e.sh, .agg (bys id).toArray] w fun e w' => e = .returned (.bool (isP seed k c && (decide (c.e.kind = kd) && decide (c.e.tx = id)))) ∧ Below w.heap.size w w' := by
  have h := proves_any p k seed A cap c kd c.e.sh id hid w hr hk hc hcap hpl hP hgl
  have e : decide (c.e.sh = c.e.sh) = true := by simp
  rw [e, Bool.true_and] at h
  exact h
set_option maxHeartbeats 4000000 in
theorem setall_nil (A1 : Option Addr) (c1 : Nat) (A2 : Option Addr) (c2 : Nat) (t : TxD) (k : Int) (hk : -9223372036854775808 ≤ k ∧ k ≤ 9223372036854775807) (A : Option Addr) (N c : Nat) (w : World) (h : TxAt w A1 A2 t) (hgl : Glob w) (hl : t.ins.length ≤ 1000000) (hl2 : t.outs.length ≤ 1000000) :
    Calls Tryz.prog 10 #[.pointer none, .agg (txV A1 c1 A2 c2 t), .int .i64 k, .slice A N c] w fun e w' => e = .returned (.int .i64 1) ∧ Below w.heap.size w w' := by
  have b0 := Blk.new w 27 (txV A1 c1 A2 c2 t)
  have B0 : Below w.heap.size w (w.alloc (.cells (txV A1 c1 A2 c2 t) 27)) := (Below.refl _ w).alloc (Nat.le_refl _) _
  obtain ⟨W, hW⟩ : ∃ W, w.alloc (.cells (txV A1 c1 A2 c2 t) 27) = W := ⟨_, rfl⟩
  rw [hW] at b0 B0
  obtain ⟨g, hg⟩ : ∃ g, w.heap.size = g := ⟨_, rfl⟩
  rw [hg] at b0
  have hld := fun X (hX : Below W.heap.size W X) => LDs_all (P := Tryz.prog) uTx iTx (w := X) (txV A1 c1 A2 c2 t).toList (by simpa using b0.fr (Fr.of_below hX) (by have := b0.lt; omega)) rfl
  have hld0 := hld W (Below.refl _ _)
  have hins := mins_any A1 c1 A2 c2 t k hk W (h.below B0) (hgl.below B0) hl hl2
  have hck := fun X (hX : Below W.heap.size W X) many => setcheck_any none A1 c1 A2 c2 t k many A N c X ((h.below B0).below hX) hl hl2
  have hcr : ∀ many, checkR true k t N many = 1 := fun many => by unfold checkR; rw [if_pos (.inl rfl)]
  obtain ⟨S, hS⟩ : ∃ S, eachP (insP t k) = S := ⟨_, rfl⟩
  rw [hS] at hins
  obtain ⟨xs, hxs⟩ : ∃ xs, txV A1 c1 A2 c2 t = xs := ⟨_, rfl⟩
  rw [show (txV A1 c1 A2 c2 t).toList.toArray = txV A1 c1 A2 c2 t by simp, hxs] at hld0
  simp only [hxs] at hld
  rw [hxs] at hW hins ⊢
  simp only [hxs] at hck
  have HW := Lib.hid hW
  have HG := Lib.hid hg
  have HB := Lib.hid B0
  have HLD := Lib.hid hld
  have HCK := Lib.hid hck
  have HCR := Lib.hid hcr
  clear hW hg B0 hld hck hcr hS hxs h hgl b0
  go_enter Tryz.func10, Tryz.ntmps10
  go_upto_region 1 with fail
  rw [HW.out, HG.out]
  go_wp2_with fail
  with_reducible refine hins.mono ?_
  rintro e w1 ⟨As, cs, rfl, hrd, hB1⟩
  obtain ⟨M, hM⟩ : ∃ M, S.length = M := ⟨_, rfl⟩
  rw [hM]
  have hld1 := HLD.out w1 hB1
  have hck := HCK.out w1 hB1 (M : Int)
  rw [show (none : Option Addr).isNone = true from rfl, HCR.out] at hck
  have HB1 := Lib.hid hB1
  clear hB1 hins hld0 hrd hM
  go_wp2_with fail
  with_reducible refine hck.mono ?_
  rintro e w2 ⟨rfl, hB2⟩
  have HB2 := Lib.hid hB2
  clear hB2 hck hld1
  go_wp2_with fail
  go_ret
  exact ⟨rfl, HB.out.trans ((HB1.out.trans (HB2.out.mono HB1.out.size)).mono HB.out.size)⟩

set_option maxHeartbeats 8000000 in
theorem setone_any (p k : Nat) (seed : List Int) (A1 : Option Addr) (c1 : Nat) (A2 : Option Addr) (c2 : Nat) (t : TxD) (A : Option Addr) (c : Nat) (l : List CertD) (w : World) (hr : RingAt w p seed k) (h1k : 1 ≤ k) (hk : k ≤ 64) (h : TxAt w A1 A2 t) (hgl : Glob w) (hl : t.ins.length ≤ 1000000) (hl2 : t.outs.length ≤ 1000000)
    (hC : CertsAt w A l) (hpl : ∀ c ∈ l, c.path.length ≤ 1000000) :
    Calls Tryz.prog 12 #[.pointer (some ⟨p, 0, none⟩), .agg (txV A1 c1 A2 c2 t), .int .i64 (k : Int), .slice A l.length c] w fun e w' => e = .returned (.int .i64 (rejP seed t k l)) ∧ Below w.heap.size w w' := by
  have b0 := Blk.new w 27 (txV A1 c1 A2 c2 t)
  have B0 : Below w.heap.size w (w.alloc (.cells (txV A1 c1 A2 c2 t) 27)) := (Below.refl _ w).alloc (Nat.le_refl _) _
  obtain ⟨W, hW⟩ : ∃ W, w.alloc (.cells (txV A1 c1 A2 c2 t) 27) = W := ⟨_, rfl⟩
  rw [hW] at b0 B0
  obtain ⟨g, hg⟩ : ∃ g, w.heap.size = g := ⟨_, rfl⟩
  rw [hg] at b0
  have hld := fun X (hX : Below W.heap.size W X) => LDs_all (P := Tryz.prog) uTx iTx (w := X) (txV A1 c1 A2 c2 t).toList (by simpa using b0.fr (Fr.of_below hX) (by have := b0.lt; omega)) rfl
  have hld0 := hld W (Below.refl _ _)
  have hck := setcheck_any (some ⟨p, 0, none⟩) A1 c1 A2 c2 t (k : Int) 1 A l.length c W (h.below B0) hl hl2
  have hins := fun X (hX : Below W.heap.size W X) => mins_any A1 c1 A2 c2 t (k : Int) (by omega) X ((h.below B0).below hX) ((hgl.below B0).below hX) hl hl2
  have hid := fun X (hX : Below W.heap.size W X) => txid_any A1 c1 A2 c2 t X ((h.below B0).below hX) ((hgl.below B0).below hX) hl hl2
  have hcr : checkR false (k : Int) t l.length 1 = if checkP t ≠ 0 then checkP t else if l.length ≠ 1 then 27 else 0 := by
    unfold checkR
    rw [if_neg (by simp; omega)]
    by_cases h0 : checkP t = 0
    · simp only [h0, ne_eq, not_true_eq_false, if_false]
      by_cases h1 : l.length = 1
      · simp [h1]
      · rw [if_pos (by omega), if_pos h1]
    · rw [if_pos h0, if_pos h0]
  rw [show (some (⟨p, 0, none⟩ : Addr)).isNone = false from rfl, hcr] at hck
  have hres : rejP seed t (k : Int) l = if checkP t ≠ 0 then checkP t else if l.length ≠ 1 then 27 else if rejOne seed t k (l.getD 0 default) = true then 0 else 16 := by
    unfold rejP
    rw [if_neg (by omega)]
  have hro : ∀ c, rejOne seed t (k : Int) c = ((eachP (insP t (k : Int))).contains c.e.sh && (isP seed k c && (decide (c.e.kind = 2) && decide (c.e.tx = idP t)))) := fun c => by
    unfold rejOne
    cases isP seed (k : Int) c <;> cases decide (c.e.kind = 2) <;> cases decide (c.e.tx = idP t) <;> simp
  have hDi : Dig (idP t) := ⟨idP_len t, idP_bd t⟩
  have hlen64 := eachP_len (insP t (k : Int))
  rw [hres]
  obtain ⟨S, hS⟩ : ∃ S, eachP (insP t (k : Int)) = S := ⟨_, rfl⟩
  simp only [hS] at hins hro
  rw [hS] at hlen64
  obtain ⟨D, hD⟩ : ∃ D, idP t = D := ⟨_, rfl⟩
  simp only [hD] at hid hro hDi
  have hrW := hr.below B0
  have hCW := hC.below B0
  have hgW := hgl.below B0
  obtain ⟨xs, hxs⟩ : ∃ xs, txV A1 c1 A2 c2 t = xs := ⟨_, rfl⟩
  rw [show (txV A1 c1 A2 c2 t).toList.toArray = txV A1 c1 A2 c2 t by simp, hxs] at hld0
  simp only [hxs] at hld
  rw [hxs] at hW hck ⊢
  simp only [hxs] at hins hid
  obtain ⟨N, hN⟩ : ∃ N, l.length = N := ⟨_, rfl⟩
  rw [hN] at hck ⊢
  obtain ⟨R, hR⟩ : ∃ R, checkP t = R := ⟨_, rfl⟩
  rw [hR] at hck ⊢
  obtain ⟨RES, hRES⟩ : ∃ r, (if R ≠ 0 then R else if N ≠ 1 then 27 else if rejOne seed t k (l.getD 0 default) = true then 0 else 16) = r := ⟨_, rfl⟩
  rw [hRES]
  obtain ⟨Z, hal, hst0, hz⟩ := alstZ (P := Tryz.prog) (t := 48) iCert zCert
  have HW := Lib.hid hW
  have HG := Lib.hid hg
  have HB := Lib.hid B0
  have HLD := Lib.hid hld
  have HINS := Lib.hid hins
  have HID := Lib.hid hid
  have HR := Lib.hid hrW
  have HC := Lib.hid hCW
  have HGL := Lib.hid hgW
  have HRO := Lib.hid hro
  have HDI := Lib.hid hDi
  have HN := Lib.hid hN
  have HPL := Lib.hid hpl
  have HL64 := Lib.hid hlen64
  have HBK := Lib.hid b0
  have HRES := Lib.hid hRES
  clear hW hg B0 hld hins hid hrW hCW hgW hro hDi hN hpl hlen64 b0 hRES hR hD hS hxs h hgl hr hC hres hcr hz
  by_cases hR0 : R = 0
  · subst hR0
    simp only [ne_eq, not_true_eq_false, if_false] at hck HRES
    by_cases hNM : N = 1
    · subst hNM
      simp only [not_true_eq_false, if_false] at hck HRES
      have hil : 0 < l.length := by rw [HN.out]; omega
      obtain ⟨g2, o2, B2, d2, rfl, hg2, hct0⟩ := HC.out 0 hil
      rw [Nat.zero_mul, Nat.add_zero] at hct0
      have hgd : l.getD 0 default = l[0] := by simp [List.getD, hil]
      rw [hgd, HRO.out] at HRES
      have hpl0 := HPL.out _ (List.getElem_mem hil)
      obtain ⟨ct, hct⟩ : ∃ x, l[0] = x := ⟨_, rfl⟩
      rw [hct] at hct0 hpl0 HRES
      have hcl := certV_len hct0.bd B2 d2
      have hst := fun X => hst0 X (certV ct B2 d2) hcl (certV_one _ _ _)
      have hldc := fun X (hX : Below W.heap.size W X) => (hct0.below hg2 hX).ld
      obtain ⟨cs, hcs⟩ : ∃ x, certV ct B2 d2 = x := ⟨_, rfl⟩
      have hcc := certV_c hct0.bd B2 d2
      rw [hcs] at hcl hcc
      simp only [hcs] at hst hldc
      have HCT := Lib.hid hct0
      have HLDC := Lib.hid hldc
      have HCS := Lib.hid hcs
      have HCL := Lib.hid hcl
      have HPL0 := Lib.hid hpl0
      clear hct0 hldc hcs hcl hpl0 hst0 hgd hct
      go_enter Tryz.func12, Tryz.ntmps12
      go_upto_region 1 with fail
      rw [HW.out, HG.out]
      go_wp2_with fail
      with_reducible refine hck.mono ?_
      rintro e w1 ⟨rfl, hB1⟩
      have hldc1 := HLDC.out w1 hB1
      have q1 := Blk.new w1 48 cs.toArray
      have q2 := hB1.alloc hB1.size (.cells cs.toArray 48)
      have hst1 := hst w1
      obtain ⟨h, hh⟩ : ∃ h, w1.heap.size = h := ⟨_, rfl⟩
      obtain ⟨Y, hY⟩ : ∃ Y, w1.alloc (.cells cs.toArray 48) = Y := ⟨_, rfl⟩
      rw [hY] at q1 q2 hst1
      rw [hh] at q1
      have F1 := fun X (hX : Below Y.heap.size Y X) => LDs_all (P := Tryz.prog) uCert iCert cs (q1.fr (Fr.of_below hX) (by have := q1.lt; omega)) HCL.out
      have F2 := fun X (hX : Below Y.heap.size Y X) => ((q1.fr (Fr.of_below hX) (by have := q1.lt; omega)).cell 1).trans hcc.2.1
      have F3 := fun X (hX : Below Y.heap.size Y X) => HLD.out X (q2.trans (hX.mono q2.size))
      obtain ⟨cv, hcv⟩ : ∃ x, cs.toArray = x := ⟨_, rfl⟩
      have hpr := fun X (hX : Below Y.heap.size Y X) => proves_own p k seed B2 d2 ct 2 D HDI.out X (HR.out.below (q2.trans (hX.mono q2.size))) hk HCT.out.bd HCT.out.room HPL0.out (HCT.out.path.below (q2.trans (hX.mono q2.size))) (HGL.out.below (q2.trans (hX.mono q2.size)))
      simp only [HCS.out, hcv] at hpr
      simp only [hcv] at F1
      have hci := fun X As cs (hX : RdW .i64 X As S) => containsI_any As cs S ct.e.sh X hX (by have := HL64.out; omega)
      obtain ⟨C, hC⟩ : ∃ C, S.contains ct.e.sh = C := ⟨_, rfl⟩
      simp only [hC] at hci
      rw [hC] at HRES
      obtain ⟨PR, hPR⟩ : ∃ P, (isP seed k ct && (decide (ct.e.kind = 2) && decide (ct.e.tx = D))) = P := ⟨_, rfl⟩
      simp only [hPR] at hpr
      rw [hPR] at HRES
      obtain ⟨sh, hsh⟩ : ∃ s, ct.e.sh = s := ⟨_, rfl⟩
      simp only [hsh] at hpr hci F2
      obtain ⟨M, hM⟩ : ∃ M, S.length = M := ⟨_, rfl⟩
      simp only [hM] at hci
      obtain ⟨S0, hS0⟩ : ∃ S0 : World → Prop, (fun X => (LDs 48 (.pointer (some ⟨h, 0, none⟩))).run Tryz.prog X = .ok (.agg cv) X ∧ X.cell? ⟨h, 1, none⟩ = some (.int .i64 sh) ∧ (LDs 27 (.pointer (some ⟨g, 0, none⟩))).run Tryz.prog X = .ok (.agg xs) X) = S0 := ⟨_, rfl⟩
      have hSS : ∀ X, Below Y.heap.size Y X → S0 X := fun X hX => by rw [← hS0]; exact ⟨F1 X hX, F2 X hX, F3 X hX⟩
      have hin := HINS.out Y.drew q2.drew
      rw [hM] at hin
      have HHH := Lib.hid hh
      have HYB := Lib.hid q2
      have HS0 := Lib.hid hS0
      have HSS := Lib.hid hSS
      have HPR := Lib.hid hpr
      have HCI := Lib.hid hci
      clear hh q2 hS0 hSS hpr hci hB1 hY hld0 hck hst hcc hcv F1 F2 F3 hC hPR hsh hM
      cases C with
      | true =>
        rw [Bool.true_and] at HRES
        go_upto_region 5 with fail
        rw [HHH.out]
        refine wp_txO [(1, 3), (3, 3), (4, 3), (0, 0), (5, 0), (2, 1), (6, 1), (7, 3), (8, 3), (9, 3), (11, 3), (12, 3), (10, 0), (13, 0), (14, 0), (15, 1), (16, 2), (17, 3), (18, 3)] S0 (by kernel_rfl) (by kernel_rfl) (by kernel_rfl) (by kernel_rfl) (HSS.out _ (Below.refl _ _).drew) ?_
        iterate 3 (with_reducible refine wpTxO_evN (o := ?_) (v := ?_) (a' := ?_) (by with_unfolding_all rfl) (by with_unfolding_all rfl) (fun W' => ?_) ?_ ?_; rotate_left 2; (focus (go_simp <;> with_reducible rfl)); focus (go_simp <;> with_reducible rfl))
        iterate 2 (with_reducible refine wpTxO_takeN (o := ?_) (v := ?_) (a' := ?_) (by with_unfolding_all rfl) (by with_unfolding_all rfl) (fun W' hS => ?_) ?_ ?_; rotate_left 2; (focus (rw [← HS0.out] at hS; obtain ⟨t1, t2, t3⟩ := hS; go_simp <;> with_reducible rfl)); focus (go_simp <;> with_reducible rfl))
        with_reducible refine wpTxO_want (o := ?_) (by with_unfolding_all rfl) (by with_unfolding_all rfl) (fun K hK => ?_)
        try simp only [List.getElem_toArray, List.getElem_cons_succ, List.getElem_cons_zero]
        go_simp
        with_reducible refine hin.mono ?_
        rintro e w2 ⟨As, cs2, rfl, hrd, hB2⟩
        have hB2W : Below Y.heap.size Y w2 := (Below.refl _ Y).drew.trans hB2
        have hci := HCI.out w2 As cs2 hrd
        have HB2 := Lib.hid hB2W
        clear hB2W hB2 hrd hin
        with_reducible refine hK _ _ (HSS.out _ HB2.out) ?_
        clear hK K
        with_reducible refine wpTxO_want (o := ?_) (by with_unfolding_all rfl) (by with_unfolding_all rfl) (fun K hK => ?_)
        try simp only [List.getElem_toArray, List.getElem_cons_succ, List.getElem_cons_zero]
        go_simp
        with_reducible refine hci.mono ?_
        rintro e w6 ⟨rfl, hw6⟩
        rw [hw6]
        clear hw6 hci
        have hid := HID.out w2 (HYB.out.trans (HB2.out.mono HYB.out.size))
        with_reducible refine hK _ _ (HSS.out _ HB2.out) ?_
        clear hK K
        iterate 5 (with_reducible refine wpTxO_evN (o := ?_) (v := ?_) (a' := ?_) (by with_unfolding_all rfl) (by with_unfolding_all rfl) (fun W' => ?_) ?_ ?_; rotate_left 2; (focus (go_simp <;> with_reducible rfl)); focus (go_simp <;> with_reducible rfl))
        iterate 3 (with_reducible refine wpTxO_takeN (o := ?_) (v := ?_) (a' := ?_) (by with_unfolding_all rfl) (by with_unfolding_all rfl) (fun W' hS => ?_) ?_ ?_; rotate_left 2; (focus (rw [← HS0.out] at hS; obtain ⟨t1, t2, t3⟩ := hS; go_simp <;> with_reducible rfl)); focus (go_simp <;> with_reducible rfl))
        with_reducible refine wpTxO_want (o := ?_) (by with_unfolding_all rfl) (by with_unfolding_all rfl) (fun K hK => ?_)
        try simp only [List.getElem_toArray, List.getElem_cons_succ, List.getElem_cons_zero]
        go_simp
        with_reducible refine hid.mono ?_
        rintro e w15 ⟨rfl, hB15⟩
        have hB15W := HB2.out.trans (hB15.mono HB2.out.size)
        have hpr := HPR.out w15 hB15W
        have HB15 := Lib.hid hB15W
        clear hB15W hB15 hid
        with_reducible refine hK _ _ (HSS.out _ HB15.out) ?_
        clear hK K
        with_reducible refine wpTxO_last (o := ?_) (by with_unfolding_all rfl) (by with_unfolding_all rfl) (fun K hK => ?_)
        try simp only [List.getElem_toArray, List.getElem_cons_succ, List.getElem_cons_zero]
        go_simp
        with_reducible refine hpr.mono ?_
        rintro e w16 ⟨rfl, hB16⟩
        have HB16 := Lib.hid hB16
        clear hB16 hpr
        with_reducible refine hK _ _ ?_
        clear hK K
        iterate 2 (with_reducible refine wpTxO_evN (o := ?_) (v := ?_) (a' := ?_) (by with_unfolding_all rfl) (by with_unfolding_all rfl) (fun W' => ?_) ?_ ?_; rotate_left 2; (focus (go_simp <;> with_reducible rfl)); focus (go_simp <;> with_reducible rfl))
        with_reducible refine wpTxO_nil ?_
        rw [noPan_normal]
        cases PR with
        | true =>
          have hR1 : RES = 0 := HRES.out.symm
          subst hR1
          go_wp2_with fail
          go_ret
          exact ⟨rfl, HB.out.trans ((HYB.out.trans ((HB15.out.trans (HB16.out.mono HB15.out.size)).mono HYB.out.size)).mono HB.out.size)⟩
        | false =>
          have hR1 : RES = 16 := HRES.out.symm
          subst hR1
          go_wp2_with fail
          go_ret
          exact ⟨rfl, HB.out.trans ((HYB.out.trans ((HB15.out.trans (HB16.out.mono HB15.out.size)).mono HYB.out.size)).mono HB.out.size)⟩
      | false =>
        have hR1 : RES = 16 := HRES.out.symm
        subst hR1
        clear HRES
        go_upto_region 5 with fail
        rw [HHH.out]
        refine wp_txO [(1, 3), (3, 3), (4, 3), (0, 0), (5, 0), (2, 1), (6, 2), (7, 3), (8, 3), (9, 3), (10, 3), (11, 3), (12, 3), (13, 3), (14, 3), (15, 3), (16, 3), (17, 3), (18, 3)] S0 (by kernel_rfl) (by kernel_rfl) (by kernel_rfl) (by kernel_rfl) (HSS.out _ (Below.refl _ _).drew) ?_
        iterate 3 (with_reducible refine wpTxO_evN (o := ?_) (v := ?_) (a' := ?_) (by with_unfolding_all rfl) (by with_unfolding_all rfl) (fun W' => ?_) ?_ ?_; rotate_left 2; (focus (go_simp <;> with_reducible rfl)); focus (go_simp <;> with_reducible rfl))
        iterate 2 (with_reducible refine wpTxO_takeN (o := ?_) (v := ?_) (a' := ?_) (by with_unfolding_all rfl) (by with_unfolding_all rfl) (fun W' hS => ?_) ?_ ?_; rotate_left 2; (focus (rw [← HS0.out] at hS; obtain ⟨t1, t2, t3⟩ := hS; go_simp <;> with_reducible rfl)); focus (go_simp <;> with_reducible rfl))
        with_reducible refine wpTxO_want (o := ?_) (by with_unfolding_all rfl) (by with_unfolding_all rfl) (fun K hK => ?_)
        try simp only [List.getElem_toArray, List.getElem_cons_succ, List.getElem_cons_zero]
        go_simp
        with_reducible refine hin.mono ?_
        rintro e w2 ⟨As, cs2, rfl, hrd, hB2⟩
        have hB2W : Below Y.heap.size Y w2 := (Below.refl _ Y).drew.trans hB2
        have hci := HCI.out w2 As cs2 hrd
        have HB2 := Lib.hid hB2W
        clear hB2W hB2 hrd hin
        with_reducible refine hK _ _ (HSS.out _ HB2.out) ?_
        clear hK K
        with_reducible refine wpTxO_last (o := ?_) (by with_unfolding_all rfl) (by with_unfolding_all rfl) (fun K hK => ?_)
        try simp only [List.getElem_toArray, List.getElem_cons_succ, List.getElem_cons_zero]
        go_simp
        with_reducible refine hci.mono ?_
        rintro e w6 ⟨rfl, hw6⟩
        rw [hw6]
        clear hw6 hci
        with_reducible refine hK _ _ ?_
        clear hK K
        iterate 2 (with_reducible refine wpTxO_evN (o := ?_) (v := ?_) (a' := ?_) (by with_unfolding_all rfl) (by with_unfolding_all rfl) (fun W' => ?_) ?_ ?_; rotate_left 2; (focus (go_simp <;> with_reducible rfl)); focus (go_simp <;> with_reducible rfl))
        iterate 9 (with_reducible refine wpTxO_evd (o := ?_) (a' := ?_) (by with_unfolding_all rfl) (by with_unfolding_all rfl) ?_ ?_; rotate_left; focus (go_simp <;> with_reducible rfl))
        iterate 1 (with_reducible refine wpTxO_evN (o := ?_) (v := ?_) (a' := ?_) (by with_unfolding_all rfl) (by with_unfolding_all rfl) (fun W' => ?_) ?_ ?_; rotate_left 2; (focus (go_simp <;> with_reducible rfl)); focus (go_simp <;> with_reducible rfl))
        with_reducible refine wpTxO_nil ?_
        rw [noPan_normal]
        go_wp2_with fail
        go_ret
        exact ⟨rfl, HB.out.trans ((HYB.out.trans (HB2.out.mono HYB.out.size)).mono HB.out.size)⟩
    · simp only [hNM, not_false_eq_true, if_true] at hck HRES
      have hR1 : RES = 27 := HRES.out.symm
      subst hR1
      go_enter Tryz.func12, Tryz.ntmps12
      go_upto_region 1 with fail
      rw [HW.out, HG.out]
      go_wp2_with fail
      with_reducible refine hck.mono ?_
      rintro e w1 ⟨rfl, hB1⟩
      have HB1 := Lib.hid hB1
      clear hB1 hck hld0
      go_wp2_with fail
      go_ret
      exact ⟨rfl, HB.out.trans (HB1.out.mono HB.out.size)⟩
  · simp only [ne_eq, hR0, not_false_eq_true, if_true] at hck HRES
    have hR1 : RES = R := HRES.out.symm
    subst hR1
    have h3b : (RES != 0) = true := by simpa using hR0
    clear hR0 HRES
    go_enter Tryz.func12, Tryz.ntmps12
    go_upto_region 1 with fail
    rw [HW.out, HG.out]
    go_wp2_with fail
    with_reducible refine hck.mono ?_
    rintro e w1 ⟨rfl, hB1⟩
    have HB1 := Lib.hid hB1
    clear hB1 hck hld0
    go_wp2_with fail
    go_ret
    exact ⟨rfl, HB.out.trans (HB1.out.mono HB.out.size)⟩
end Go.Proofs.YtmflhidmhefljaaGreatDoor
end
