/-
  MappingOnce: the walk.
-/
import Derived.Test.YtmflhidmhefljaaDoorMapK
namespace Go.Proofs.YtmflhidmhefljaaDoor
open Go.RowKit Go.Shelf
set_option maxRecDepth 100000

/-! ### The plain law -/
/-- The places of all shards below k. -/
def accP (L : List Int) : Nat → List Int
  | 0 => []
  | k + 1 => accP L k ++ placesP L (k : Nat)
theorem accP_succ (L : List Int) (k : Nat) : accP L (k + 1) = accP L k ++ placesP L (k : Nat) := rfl
theorem accP_len (L : List Int) : ∀ k, (accP L k).length ≤ L.length * k
  | 0 => by simp [accP]
  | k + 1 => by
    rw [accP_succ, List.length_append, Nat.mul_succ]
    exact Nat.add_le_add (accP_len L k) (placesP_len L _)
theorem count_range (q : Nat → Bool) (i : Nat) : ∀ n, (List.range n).countP (fun (a : Nat) => ((a : Int) == (i : Int)) && q a) = if i < n ∧ q i = true then 1 else 0
  | 0 => by simp
  | n + 1 => by
    rw [List.range_succ, List.countP_append, count_range q i n, List.countP_singleton]
    by_cases h : n = i
    · subst h
      cases hq : q n <;> simp
    · have h1 : (((n : Int) == (i : Int)) && q n) = false := by
        rw [Bool.and_eq_false_iff]
        left
        rw [beq_eq_false_iff_ne]
        omega
      rw [h1]
      have h2 : (i < n + 1 ∧ q i = true) ↔ (i < n ∧ q i = true) := by
        constructor
        · rintro ⟨a, b⟩; exact ⟨by omega, b⟩
        · rintro ⟨a, b⟩; exact ⟨by omega, b⟩
      simp [h2]
theorem count_places (L : List Int) (v : Int) (i : Nat) : (placesP L v).count (i : Int) = if i < L.length ∧ L.getD i 0 = v then 1 else 0 := by
  unfold placesP
  rw [List.count_eq_countP, List.countP_map, List.countP_filter]
  rw [show (fun a => (((fun x => x == (i : Int)) ∘ fun (k : Nat) => (k : Int)) a && (fun i => L.getD i 0 == v) a)) = (fun (a : Nat) => ((a : Int) == (i : Int)) && (fun i => L.getD i 0 == v) a) from rfl, count_range]
  simp only [beq_iff_eq]
theorem count_acc (L : List Int) (i : Nat) (hb : ∀ x ∈ L, 0 ≤ x) : ∀ k : Nat, (accP L k).count (i : Int) = if i < L.length ∧ L.getD i 0 < (k : Int) then 1 else 0
  | 0 => by
    rw [if_neg]
    · rfl
    · rintro ⟨h1, h2⟩
      have := hb (L.getD i 0) (by simp [List.getD, h1])
      omega
  | k + 1 => by
    rw [accP_succ, List.count_append, count_acc L i hb k, count_places]
    by_cases h1 : i < L.length
    · by_cases h2 : L.getD i 0 < (k : Int)
      · rw [if_pos ⟨h1, h2⟩, if_neg (fun h => by have := h.2; omega), if_pos ⟨h1, by omega⟩]
      · by_cases h3 : L.getD i 0 = (k : Int)
        · rw [if_neg (fun h => h2 h.2), if_pos ⟨h1, h3⟩, if_pos ⟨h1, by omega⟩]
        · rw [if_neg (fun h => h2 h.2), if_neg (fun h => h3 h.2), if_neg (fun h => by have := h.2; omega)]
    · rw [if_neg (fun h => h1 h.1), if_neg (fun h => h1 h.1), if_neg (fun h => h1 h.1)]
theorem count_full (L : List Int) (i m : Nat) (hb : ∀ x ∈ L, 0 ≤ x ∧ x < (m : Int)) : (accP L m).count (i : Int) = if i < L.length then 1 else 0 := by
  rw [count_acc L i (fun x hx => (hb x hx).1) m]
  by_cases h : i < L.length
  · rw [if_pos ⟨h, (hb (L.getD i 0) (by simp [List.getD, h])).2⟩, if_pos h]
  · rw [if_neg (fun h' => h h'.1), if_neg h]
theorem ins_lenN {t : TxD} {n : Int} (h : checkP t = 0) (hn : okN n = true) : (insP t n).length = t.ins.length ∧ (outsP t n).length = t.outs.length := by
  have e1 : insP t n = t.ins.map fun i => ofO i.tx i.ix n := by unfold insP; rw [if_pos ⟨h, hn⟩]
  have e2 : outsP t n = (List.range t.outs.length).map fun k => ofO (idP t) (k : Nat) n := by unfold outsP; rw [if_pos ⟨h, hn⟩]
  exact ⟨by rw [e1, List.length_map], by rw [e2, List.length_map, List.length_range]⟩
/-- Sixteen counters. -/
def cntL (l : List Int) : List Value := (List.range 16).map fun (i : Nat) => Value.int .i64 ((l.count (i : Int) : Nat) : Int)
theorem cntL_nil : (cntL []).toArray = #[.int .i64 0, .int .i64 0, .int .i64 0, .int .i64 0, .int .i64 0, .int .i64 0, .int .i64 0, .int .i64 0, .int .i64 0, .int .i64 0, .int .i64 0, .int .i64 0, .int .i64 0, .int .i64 0, .int .i64 0, .int .i64 0] := rfl
theorem cntL_get (l : List Int) {p : Nat} (hp : p < 16) : (cntL l).toArray[p]? = some (.int .i64 ((l.count (p : Int) : Nat) : Int)) := by
  simp [cntL, hp]
theorem cntL_set (l : List Int) {p : Nat} : (cntL l).toArray.setIfInBounds p (.int .i64 ((l.count (p : Int) : Nat) + 1 : Int)) = (cntL (l ++ [(p : Int)])).toArray := by
  rw [List.setIfInBounds_toArray]
  congr 1
  apply List.ext_getElem
  · simp [cntL]
  · intro j h1 h2
    rw [List.getElem_set]
    simp only [cntL, List.getElem_map, List.getElem_range, List.count_append, List.count_singleton]
    by_cases h : p = j
    · subst h
      simp
    · have h' : ((p : Int) == (j : Int)) = false := by
        rw [beq_eq_false_iff_ne]; omega
      rw [if_neg h, h']
      simp
theorem places_at (L : List Int) (v : Int) {j : Nat} (hj : j < (placesP L v).length) : ∃ p : Nat, p < L.length ∧ (placesP L v).getD j 0 = (p : Int) := by
  have hm : (placesP L v).getD j 0 ∈ placesP L v := by simp [List.getD, hj]
  obtain ⟨i, e, hi⟩ := (placesP_mem L v _).1 hm
  exact ⟨i, (List.getElem?_eq_some_iff.1 hi).1, e⟩
theorem has_each (L : List Int) (k : Nat) (hk : k < 64) : (eachP L).contains (k : Int) = decide (0 < (((placesP L (k : Int)).length : Nat) : Int)) := by
  rw [Bool.eq_iff_iff, List.contains_iff_mem, decide_eq_true_eq, eachP_mem, ← placesP_pos]
  omega

set_option maxHeartbeats 16000000 in
theorem maponce_law (A1 : Option Addr) (c1 : Nat) (A2 : Option Addr) (c2 : Nat) (t : TxD) (sh : Int) (w : World) (h : TxAt w A1 A2 t) (_m1 : t.ins.length ≤ maxLen) (_m2 : t.outs.length ≤ maxLen) (hsh : 0 ≤ sh ∧ sh ≤ 255) (hg : Glob w) :
    Calls Tryd.prog 4 #[.agg (txV A1 c1 A2 c2 t), .int .u8 sh] w fun e w' => e = .returned (.bool true) ∧ Below w.heap.size w w' := by
  have b0 := Blk.new w 35 (txV A1 c1 A2 c2 t)
  have B0 : Below w.heap.size w (w.alloc (.cells (txV A1 c1 A2 c2 t) 35)) := (Below.refl _ w).alloc (Nat.le_refl _) _
  obtain ⟨W, hW⟩ : ∃ W, w.alloc (.cells (txV A1 c1 A2 c2 t) 35) = W := ⟨_, rfl⟩
  obtain ⟨g, hgg⟩ : ∃ g, w.heap.size = g := ⟨_, rfl⟩
  rw [hW] at B0
  rw [hW, hgg] at b0
  have hgW : g < W.heap.size := b0.lt
  have hT := h.below B0
  have hG := hg.below B0
  have hbox : ∀ X, Below W.heap.size W X → X.cell? ⟨g, 0, none⟩ = some (.slice A1 t.ins.length c1) ∧ X.cell? ⟨g, 1, none⟩ = some (.slice A2 t.outs.length c2) ∧ X.cell? ⟨g, 2, none⟩ = some (.int .u64 t.fee) ∧ X.cell? ⟨g, 3, none⟩ = some (.int .i64 t.exp) := fun X hX =>
    ⟨(hX.cell (p := ⟨g, 0, none⟩) hgW).trans (b0.cell 0), (hX.cell (p := ⟨g, 1, none⟩) hgW).trans (b0.cell 1), (hX.cell (p := ⟨g, 2, none⟩) hgW).trans (b0.cell 2), (hX.cell (p := ⟨g, 3, none⟩) hgW).trans (b0.cell 3)⟩
  have hck := rcheck_any A1 c1 A2 c2 t W hT
  have haw := fun X (hX : Below W.heap.size W X) => awake8 X (hG.below hX)
  have HW := Lib.hid hW
  have HG := Lib.hid hgg
  have HB0 := Lib.hid B0
  have HBOX := Lib.hid hbox
  have HAW := Lib.hid haw
  obtain ⟨q0, q1, q2, q3⟩ := hbox W (Below.refl _ _)
  by_cases hck0 : checkP t ≠ 0
  · obtain ⟨R, hR⟩ : ∃ R, checkP t = R := ⟨_, rfl⟩
    rw [hR] at hck hck0
    have hRb : (R != 0) = true := by simp [hck0]
    clear hW hgg B0 b0 hgW hT hG hbox haw h hg hR hck0
    unfold txV at HW hck ⊢
    go_enter Tryd.func4, Tryd.ntmps4
    go_upto_region 1 with fail
    rw [HW.out, HG.out]
    go_wp2_with fail
    with_reducible refine hck.mono ?_
    rintro e w1 ⟨rfl, hB1⟩
    have haw := HAW.out w1 hB1
    have HB1 := Lib.hid hB1
    clear hB1 hck
    go_wp2_with fail
    with_reducible refine haw.mono ?_
    rintro e w2 ⟨rfl, hB2⟩
    have HB2 := Lib.hid (HB0.out.trans ((HB1.out.trans (hB2.mono HB1.out.size)).mono HB0.out.size))
    clear hB2 haw
    go_wp2_with fail
    go_ret
    exact ⟨rfl, HB2.out⟩
  have hc0 : checkP t = 0 := by simpa using hck0
  rw [hc0] at hck
  obtain ⟨⟨_, hl1⟩, ⟨_, hl2⟩, _⟩ := longP_not (checkP_ok hc0).1
  obtain ⟨n, hn⟩ : ∃ n, 1 + sh.tmod 64 = n := ⟨_, rfl⟩
  have hmod : sh.tmod 64 = sh % 64 := Int.tmod_eq_emod_of_nonneg hsh.1
  have hn1 : 1 ≤ n ∧ n ≤ 64 := by rw [← hn, hmod]; omega
  have hokn : okN n = true := by simpa [okN] using hn1
  have hnb : -9223372036854775808 ≤ n ∧ n ≤ 9223372036854775807 := by omega
  obtain ⟨m, rfl⟩ : ∃ m : Nat, n = (m : Int) := ⟨n.toNat, by omega⟩
  obtain ⟨hle1, hle2⟩ := ins_lenN hc0 hokn
  have h641 := insP_bd t (m : Int)
  have h642 := outsP_bd t (m : Int)
  have hma := fun s X (hX : Below W.heap.size W X) => mat_any A1 c1 A2 c2 t (m : Int) s hnb X (hT.below hX) (hG.below hX) (by omega) (by omega)
  have hmi := fun X (hX : Below W.heap.size W X) => mins_any A1 c1 A2 c2 t (m : Int) hnb X (hT.below hX) (hG.below hX) (by omega) (by omega)
  have hmo := fun X (hX : Below W.heap.size W X) => mouts_any A1 c1 A2 c2 t (m : Int) hnb X (hT.below hX) (hG.below hX) (by omega) (by omega)
  obtain ⟨L1, hL1⟩ : ∃ L1, insP t (m : Int) = L1 := ⟨_, rfl⟩
  obtain ⟨L2, hL2⟩ : ∃ L2, outsP t (m : Int) = L2 := ⟨_, rfl⟩
  simp only [hL1] at hma hmi hle1 h641
  simp only [hL2] at hma hmo hle2 h642
  have hm64 : 1 ≤ m ∧ m ≤ 64 := by omega
  have hf1 := fun i => count_full L1 i m (fun x hx => ⟨(h641 x hx).1, (h641 x hx).2.1⟩)
  have hf2 := fun i => count_full L2 i m (fun x hx => ⟨(h642 x hx).1, (h642 x hx).2.1⟩)
  have hac1 : ∀ k, k ≤ 64 → (accP L1 k).length ≤ 1024 := fun k hk => Nat.le_trans (accP_len L1 k) (Nat.mul_le_mul (show L1.length ≤ 16 by omega) hk)
  have hac2 : ∀ k, k ≤ 64 → (accP L2 k).length ≤ 1024 := fun k hk => Nat.le_trans (accP_len L2 k) (Nat.mul_le_mul (show L2.length ≤ 16 by omega) hk)
  have HMA := Lib.hid hma
  have HMI := Lib.hid hmi
  have HMO := Lib.hid hmo
  rw [hmod] at hn
  have HN := Lib.hid hn
  have HLE1 := Lib.hid hle1
  have HLE2 := Lib.hid hle2
  have HF1 := Lib.hid hf1
  have HF2 := Lib.hid hf2
  have HAC1 := Lib.hid hac1
  have HAC2 := Lib.hid hac2
  have hli16 : t.ins.length ≤ 16 := hl1
  have hlo16 : t.outs.length ≤ 16 := hl2
  clear hW hgg B0 b0 hgW hT hG hbox haw h hg hck0 hma hmi hmo hl1 hl2 hc0 hle1 hle2 h641 h642 hmod hn hf1 hf2 hac1 hac2 hL1 hL2 hn1 hokn hnb
  unfold txV at HW hck HMA HMI HMO ⊢
  go_enter Tryd.func4, Tryd.ntmps4
  go_upto_region 1 with fail
  rw [HW.out, HG.out]
  go_wp2_with fail
  with_reducible refine hck.mono ?_
  rintro e w1 ⟨rfl, hB1⟩
  clear q0 q1 q2 q3
  have hs1 := hB1.size
  obtain ⟨x0, hx0⟩ : ∃ x0, w1.heap.size = x0 := ⟨_, rfl⟩
  have HX0 := Lib.hid hx0
  have HS1 := Lib.hid hs1
  have HB1 := Lib.hid hB1
  clear hB1 hck hs1 hx0
  go_wp2_with fail
  rw [HN.out, HX0.out]
  have hxg : W.heap.size ≤ x0 := by rw [← HX0.out]; exact HS1.out
  have HXG := Lib.hid hxg
  clear hxg
  go_loopg [8, 9, 10, 11, 12, 27] m (fun kk s _ _ _ _ _ wr => ∃ k : Nat, k + kk = m ∧ s = .int .i64 (k : Int) ∧ Blk wr x0 37 (cntL (accP L1 k)).toArray ∧ Blk wr (x0 + 1) 37 (cntL (accP L2 k)).toArray ∧ Below W.heap.size W wr)
  case atStart =>
    refine ⟨0, by omega, rfl, ?_, ?_, ?_⟩
    · have := HX0.out
      subst this
      exact (Blk.new w1 _ _).alloc _
    · have h2 := Blk.new (w1.alloc (.cells (cntL []).toArray 37)) 37 (cntL []).toArray
      rw [show (w1.alloc (.cells (cntL []).toArray 37)).heap.size = x0 + 1 by rw [← HX0.out]; simp] at h2
      exact h2
    · exact (HB1.out.alloc HB1.out.size _).alloc (Nat.le_trans HB1.out.size (by simp)) _
  case round =>
    obtain ⟨wo, hwo⟩ : ∃ wo, wo = wr := ⟨_, rfl⟩
    subst hwo
    obtain ⟨k, hk, rfl, hx, hy, hB⟩ := hrel
    by_cases hlt : k < m
    · have hltI : (k : Int) < (m : Int) := by omega
      have hma := HMA.out (k : Int) wo hB
      obtain ⟨q0, q1, q2, q3⟩ := HBOX.out wo hB
      have HX := Lib.hid hx
      have HY := Lib.hid hy
      have HB := Lib.hid hB
      have HXL := Lib.hid (show x0 + 1 < wo.heap.size from hy.lt)
      clear hx hy hB
      go_wp2_with fail
      with_reducible refine hma.mono ?_
      rintro e w4 ⟨va, vb, rfl, ha, hb, hB4⟩
      obtain ⟨Aa, Na, ca, rfl⟩ := ha.formN
      obtain ⟨Ab, Nb, cb, rfl⟩ := hb.formN
      have hB4' := HB.out.trans (hB4.mono HB.out.size)
      have hmi := HMI.out w4 hB4'
      clear q0 q1 q2 q3
      obtain ⟨q0, q1, q2, q3⟩ := HBOX.out w4 hB4'
      have hea := has_each L1 k (by omega)
      have heb := has_each L2 k (by omega)
      rw [← ha.lenN] at hea
      rw [← hb.lenN] at heb
      have HEA := Lib.hid hea
      have HEB := Lib.hid heb
      have NA := Lib.hid ha.lenN
      have NB := Lib.hid hb.lenN
      have HA4 := Lib.hid ha
      have HB_4 := Lib.hid hb
      have HBW4 := Lib.hid hB4
      have HZ4 := Lib.hid (Below.refl w4.heap.size w4)
      have HB4 := Lib.hid hB4'
      clear ha hb hB4 hB4' hma hea heb
      go_wp2_with fail
      with_reducible refine hmi.mono ?_
      rintro e w5 ⟨Ai, ci, rfl, hri, hB5⟩
      have hB5' := HB4.out.trans (hB5.mono HB4.out.size)
      have hhas := rhas_any Ai (eachP L1).length ci (eachP L1) (k : Int) w5 hri rfl (by have := eachP_len L1; omega)
      rw [HEA.out] at hhas
      clear q0 q1 q2 q3
      obtain ⟨q0, q1, q2, q3⟩ := HBOX.out w5 hB5'
      have HBW5 := Lib.hid (HBW4.out.trans (hB5.mono HBW4.out.size))
      have HZ5 := Lib.hid (HZ4.out.trans (hB5.mono HZ4.out.size))
      have HB5 := Lib.hid hB5'
      clear hB5 hB5' hmi hri
      go_wp2_with fail
      with_reducible refine hhas.mono ?_
      rintro e w6 ⟨rfl, hB6⟩
      have hB6' := HB5.out.trans (hB6.mono HB5.out.size)
      have hmo := HMO.out w6 hB6'
      clear q0 q1 q2 q3
      obtain ⟨q0, q1, q2, q3⟩ := HBOX.out w6 hB6'
      have HBW6 := Lib.hid (HBW5.out.trans (hB6.mono HBW5.out.size))
      have HZ6 := Lib.hid (HZ5.out.trans (hB6.mono HZ5.out.size))
      have HB6 := Lib.hid hB6'
      clear hB6 hB6' hhas
      go_wp2_with fail
      with_reducible refine hmo.mono ?_
      rintro e w7 ⟨Ao, co, rfl, hro, hB7⟩
      have hB7' := HB6.out.trans (hB7.mono HB6.out.size)
      have hhas := rhas_any Ao (eachP L2).length co (eachP L2) (k : Int) w7 hro rfl (by have := eachP_len L2; omega)
      rw [HEB.out] at hhas
      clear q0 q1 q2 q3
      have HBW7 := Lib.hid (HBW6.out.trans (hB7.mono HBW6.out.size))
      have HZ7 := Lib.hid (HZ6.out.trans (hB7.mono HZ6.out.size))
      have HB7 := Lib.hid hB7'
      clear hB7 hB7' hmo hro
      go_wp2_with fail
      with_reducible refine hhas.mono ?_
      rintro e w8 ⟨rfl, hB8⟩
      have HBW8 := Lib.hid (HBW7.out.trans (hB8.mono HBW7.out.size))
      have HZ8 := Lib.hid (HZ7.out.trans (hB8.mono HZ7.out.size))
      have HB8 := Lib.hid (HB7.out.trans (hB8.mono HB7.out.size))
      clear hB8 hhas
      have HX8 := Lib.hid (HX.out.fr (Fr.of_below HBW8.out) (fun f => by have := HXL.out; omega))
      have HY8 := Lib.hid (HY.out.fr (Fr.of_below HBW8.out) (fun f => by have := HXL.out; omega))
      have ha8 := OwnW.keep HA4.out HZ8.out
      have hb8 := OwnW.keep HB_4.out HZ8.out
      have HA8 := Lib.hid ha8
      have HB_8 := Lib.hid hb8
      clear ha8 hb8
      go_wp2_with fail

      go_loopg [11] Na (fun kk s wq => ∃ j : Nat, j + kk = Na ∧ s = .int .i64 (j : Int) ∧ Blk wq x0 37 (cntL (accP L1 k ++ (placesP L1 (k : Int)).take j)).toArray ∧ Fr (fun q => q = x0) w8 wq)
      case atStart => exact ⟨0, by omega, rfl, by rw [List.take_zero, List.append_nil]; exact HX8.out, Fr.refl _ _⟩
      case round =>
        obtain ⟨wq, hwq⟩ : ∃ wq, wq = wr := ⟨_, rfl⟩
        subst hwq
        obtain ⟨j, hj, rfl, hxq, hF⟩ := hrel
        by_cases hjl : j < Na
        · have hjI : (j : Int) < (Na : Int) := by omega
          have hN16 : Na ≤ 16 := by rw [NA.out]; have := placesP_len L1 (k : Int); have := HLE1.out; omega
          have hjl' : j < (placesP L1 (k : Int)).length := by rw [← NA.out]; exact hjl
          obtain ⟨p, hp, hpe⟩ := places_at L1 (k : Int) hjl'
          have hp16 : p < 16 := by rw [HLE1.out] at hp; omega
          have hpI : (p : Int) < 16 := by omega
          obtain ⟨ga, ca', ea, _, hga, hgl, hcell⟩ := OwnW.cells HA8.out (by omega)
          simp only [Value.slice.injEq] at ea
          obtain ⟨rfl, -, rfl⟩ := ea
          have hne : ga ≠ x0 := by have := HXL.out; omega
          have ka : wq.cell? ⟨ga, j, none⟩ = some (.int .i64 (p : Int)) := by rw [← hpe]; exact (hF.cell (p := ⟨ga, j, none⟩) hgl hne).trans (hcell j hjl').1
          have htk := take_getD hjl'
          rw [hpe] at htk
          obtain ⟨acc, hacc⟩ : ∃ acc, accP L1 k ++ (placesP L1 (k : Int)).take j = acc := ⟨_, rfl⟩
          have hac2 : accP L1 k ++ (placesP L1 (k : Int)).take (j + 1) = acc ++ [(p : Int)] := by rw [htk, ← List.append_assoc, hacc]
          rw [hacc] at hxq
          have hcb : acc.count (p : Int) ≤ 1040 := by
            refine Nat.le_trans List.count_le_length ?_
            rw [← hacc, List.length_append, List.length_take]
            have := HAC1.out k (by omega)
            have := placesP_len L1 (k : Int)
            have := HLE1.out
            omega
          have kx : wq.cell? ⟨x0, p, none⟩ = some (.int .i64 ((acc.count (p : Int) : Nat) : Int)) := (hxq.cell p).trans (cntL_get acc hp16)
          have fx := hxq.frozen p
          have hset := cntL_set acc (p := p)
          obtain ⟨cn, hcn⟩ : ∃ cn, acc.count (p : Int) = cn := ⟨_, rfl⟩
          rw [hcn] at kx hset hcb
          have hwrap : IntKind.i64.wrap ((cn : Int) + 1) = (cn : Int) + 1 := by rw [IntKind.wrap_i64]; omega
          have HXQ := Lib.hid hxq
          have HF := Lib.hid hF
          have HSET := Lib.hid hset
          have HAC := Lib.hid hac2
          clear hxq hF hset hac2 hcell htk hpe hacc hcn hga hgl hp
          go_upto_region 14 with fail
          obtain ⟨wd, hwd⟩ : ∃ wd, wq.drew = wd := ⟨_, rfl⟩
          have kad : wd.cell? ⟨ga, j, none⟩ = some (.int .i64 (p : Int)) := by rw [← hwd]; exact ka
          have kxd : wd.cell? ⟨x0, p, none⟩ = some (.int .i64 (cn : Int)) := by rw [← hwd]; exact kx
          have fxd : wd.frozen? ⟨x0, p, none⟩ = false := by rw [← hwd]; exact fx
          have HWD := Lib.hid hwd
          clear ka kx fx
          refine wp_txJ [3, 3, 3, 0, 3, 3, 3, 0, 3, 0, 3, 3, 2] (fun W => W = wd) (by kernel_rfl) (by kernel_rfl) (by kernel_rfl) (by kernel_rfl) hwd ?_
          rw [hwd]
          clear hwd
          iterate 3 (with_reducible refine wpTxJ_evN (v := ?_) (a' := ?_) (by with_unfolding_all rfl) (fun W' => ?_) ?_ ?_; rotate_left 2; (focus (go_simp <;> with_reducible rfl)); focus (go_simp <;> with_reducible rfl))
          iterate 1 (with_reducible refine wpTxJ_takeN (v := ?_) (a' := ?_) (by with_unfolding_all rfl) (fun W' hS => ?_) ?_ ?_; rotate_left 2; (focus (subst hS; go_simp <;> with_reducible rfl)); focus (go_simp <;> with_reducible rfl))
          iterate 3 (with_reducible refine wpTxJ_evN (v := ?_) (a' := ?_) (by with_unfolding_all rfl) (fun W' => ?_) ?_ ?_; rotate_left 2; (focus (go_simp <;> with_reducible rfl)); focus (go_simp <;> with_reducible rfl))
          iterate 1 (with_reducible refine wpTxJ_takeN (v := ?_) (a' := ?_) (by with_unfolding_all rfl) (fun W' hS => ?_) ?_ ?_; rotate_left 2; (focus (subst hS; go_simp <;> with_reducible rfl)); focus (go_simp <;> with_reducible rfl))
          iterate 1 (with_reducible refine wpTxJ_evN (v := ?_) (a' := ?_) (by with_unfolding_all rfl) (fun W' => ?_) ?_ ?_; rotate_left 2; (focus (go_simp <;> with_reducible rfl)); focus (go_simp <;> with_reducible rfl))
          iterate 1 (with_reducible refine wpTxJ_takeN (v := ?_) (a' := ?_) (by with_unfolding_all rfl) (fun W' hS => ?_) ?_ ?_; rotate_left 2; (focus (subst hS; go_simp <;> with_reducible rfl)); focus (go_simp <;> with_reducible rfl))
          iterate 2 (with_reducible refine wpTxJ_evN (v := ?_) (a' := ?_) (by with_unfolding_all rfl) (fun W' => ?_) ?_ ?_; rotate_left 2; (focus (go_simp <;> with_reducible rfl)); focus (go_simp <;> with_reducible rfl))
          with_reducible refine wpTxJ_last (by with_unfolding_all rfl) (fun K hK => ?_)  -- store 3 t71 t70
          go_simp
          with_reducible refine hK _ _ ?_
          clear hK K
          with_reducible refine wpTxJ_nil ?_
          rw [noPan_normal]
          go_wp2_with fail
          go_roundg (Na - (j + 1))
          case measure => omega
          case rel =>
            refine ⟨j + 1, by omega, by go_num, ?_, ?_⟩
            · rw [HAC.out, ← HSET.out, ← HWD.out]
              exact HXQ.out.drew.set_ p _
            · rw [← HWD.out]
              exact (HF.out.drew).setCell (p := ⟨x0, p, none⟩) (fun _ => rfl) _
        · obtain rfl : Na = j := by omega
          have hjI : ¬ (Na : Int) < (Na : Int) := by omega
          rw [List.take_of_length_le (by rw [← NA.out]; exact Nat.le_refl _), ← accP_succ] at hxq
          have HX9 := Lib.hid hxq
          have HF9 := Lib.hid hF
          clear hxq hF
          go_wp2_with fail
          have HB_9 := Lib.hid (OwnW.fr HB_8.out HF9.out (fun q hq e => by have := (OwnW.lt HB_8.out hq).1; have := HXL.out; omega))
          have HY9a := Lib.hid (HY8.out.fr HF9.out (by omega))
          go_loopg [12] Nb (fun kk s wz => ∃ j : Nat, j + kk = Nb ∧ s = .int .i64 (j : Int) ∧ Blk wz (x0 + 1) 37 (cntL (accP L2 k ++ (placesP L2 (k : Int)).take j)).toArray ∧ Fr (fun q => q = (x0 + 1)) wq wz)
          case atStart => exact ⟨0, by omega, rfl, by rw [List.take_zero, List.append_nil]; exact HY9a.out, Fr.refl _ _⟩
          case round =>
            obtain ⟨wy, hwy⟩ : ∃ wy, wy = wr := ⟨_, rfl⟩
            subst hwy
            obtain ⟨j, hj, rfl, hxq, hF⟩ := hrel
            by_cases hjl : j < Nb
            · have hjI : (j : Int) < (Nb : Int) := by omega
              have hN16 : Nb ≤ 16 := by rw [NB.out]; have := placesP_len L2 (k : Int); have := HLE2.out; omega
              have hjl' : j < (placesP L2 (k : Int)).length := by rw [← NB.out]; exact hjl
              obtain ⟨p, hp, hpe⟩ := places_at L2 (k : Int) hjl'
              have hp16 : p < 16 := by rw [HLE2.out] at hp; omega
              have hpI : (p : Int) < 16 := by omega
              obtain ⟨ga, ca', ea, _, hga, hgl, hcell⟩ := OwnW.cells HB_9.out (by omega)
              simp only [Value.slice.injEq] at ea
              obtain ⟨rfl, -, rfl⟩ := ea
              have hne : ga ≠ (x0 + 1) := by have := HXL.out; omega
              have ka : wy.cell? ⟨ga, j, none⟩ = some (.int .i64 (p : Int)) := by rw [← hpe]; exact (hF.cell (p := ⟨ga, j, none⟩) hgl hne).trans (hcell j hjl').1
              have htk := take_getD hjl'
              rw [hpe] at htk
              obtain ⟨acc, hacc⟩ : ∃ acc, accP L2 k ++ (placesP L2 (k : Int)).take j = acc := ⟨_, rfl⟩
              have hac2 : accP L2 k ++ (placesP L2 (k : Int)).take (j + 1) = acc ++ [(p : Int)] := by rw [htk, ← List.append_assoc, hacc]
              rw [hacc] at hxq
              have hcb : acc.count (p : Int) ≤ 1040 := by
                refine Nat.le_trans List.count_le_length ?_
                rw [← hacc, List.length_append, List.length_take]
                have := HAC2.out k (by omega)
                have := placesP_len L2 (k : Int)
                have := HLE2.out
                omega
              have kx : wy.cell? ⟨(x0 + 1), p, none⟩ = some (.int .i64 ((acc.count (p : Int) : Nat) : Int)) := (hxq.cell p).trans (cntL_get acc hp16)
              have fx := hxq.frozen p
              have hset := cntL_set acc (p := p)
              obtain ⟨cn, hcn⟩ : ∃ cn, acc.count (p : Int) = cn := ⟨_, rfl⟩
              rw [hcn] at kx hset hcb
              have hwrap : IntKind.i64.wrap ((cn : Int) + 1) = (cn : Int) + 1 := by rw [IntKind.wrap_i64]; omega
              have HXQ := Lib.hid hxq
              have HF := Lib.hid hF
              have HSET := Lib.hid hset
              have HAC := Lib.hid hac2
              clear hxq hF hset hac2 hcell htk hpe hacc hcn hga hgl hp
              go_upto_region 18 with fail
              obtain ⟨wd, hwd⟩ : ∃ wd, wy.drew = wd := ⟨_, rfl⟩
              have kad : wd.cell? ⟨ga, j, none⟩ = some (.int .i64 (p : Int)) := by rw [← hwd]; exact ka
              have kxd : wd.cell? ⟨(x0 + 1), p, none⟩ = some (.int .i64 (cn : Int)) := by rw [← hwd]; exact kx
              have fxd : wd.frozen? ⟨(x0 + 1), p, none⟩ = false := by rw [← hwd]; exact fx
              have HWD := Lib.hid hwd
              clear ka kx fx
              refine wp_txJ [3, 3, 3, 0, 3, 3, 3, 0, 3, 0, 3, 3, 2] (fun W => W = wd) (by kernel_rfl) (by kernel_rfl) (by kernel_rfl) (by kernel_rfl) hwd ?_
              rw [hwd]
              clear hwd
              iterate 3 (with_reducible refine wpTxJ_evN (v := ?_) (a' := ?_) (by with_unfolding_all rfl) (fun W' => ?_) ?_ ?_; rotate_left 2; (focus (go_simp <;> with_reducible rfl)); focus (go_simp <;> with_reducible rfl))
              iterate 1 (with_reducible refine wpTxJ_takeN (v := ?_) (a' := ?_) (by with_unfolding_all rfl) (fun W' hS => ?_) ?_ ?_; rotate_left 2; (focus (subst hS; go_simp <;> with_reducible rfl)); focus (go_simp <;> with_reducible rfl))
              iterate 3 (with_reducible refine wpTxJ_evN (v := ?_) (a' := ?_) (by with_unfolding_all rfl) (fun W' => ?_) ?_ ?_; rotate_left 2; (focus (go_simp <;> with_reducible rfl)); focus (go_simp <;> with_reducible rfl))
              iterate 1 (with_reducible refine wpTxJ_takeN (v := ?_) (a' := ?_) (by with_unfolding_all rfl) (fun W' hS => ?_) ?_ ?_; rotate_left 2; (focus (subst hS; go_simp <;> with_reducible rfl)); focus (go_simp <;> with_reducible rfl))
              iterate 1 (with_reducible refine wpTxJ_evN (v := ?_) (a' := ?_) (by with_unfolding_all rfl) (fun W' => ?_) ?_ ?_; rotate_left 2; (focus (go_simp <;> with_reducible rfl)); focus (go_simp <;> with_reducible rfl))
              iterate 1 (with_reducible refine wpTxJ_takeN (v := ?_) (a' := ?_) (by with_unfolding_all rfl) (fun W' hS => ?_) ?_ ?_; rotate_left 2; (focus (subst hS; go_simp <;> with_reducible rfl)); focus (go_simp <;> with_reducible rfl))
              iterate 2 (with_reducible refine wpTxJ_evN (v := ?_) (a' := ?_) (by with_unfolding_all rfl) (fun W' => ?_) ?_ ?_; rotate_left 2; (focus (go_simp <;> with_reducible rfl)); focus (go_simp <;> with_reducible rfl))
              with_reducible refine wpTxJ_last (by with_unfolding_all rfl) (fun K hK => ?_)  -- store 3 t89 t88
              go_simp
              with_reducible refine hK _ _ ?_
              clear hK K
              with_reducible refine wpTxJ_nil ?_
              rw [noPan_normal]
              go_wp2_with fail
              go_roundg (Nb - (j + 1))
              case measure => omega
              case rel =>
                refine ⟨j + 1, by omega, by go_num, ?_, ?_⟩
                · rw [HAC.out, ← HSET.out, ← HWD.out]
                  exact HXQ.out.drew.set_ p _
                · rw [← HWD.out]
                  exact (HF.out.drew).setCell (p := ⟨(x0 + 1), p, none⟩) (fun _ => rfl) _
            · obtain rfl : Nb = j := by omega
              have hjI : ¬ (Nb : Int) < (Nb : Int) := by omega
              rw [List.take_of_length_le (by rw [← NB.out]; exact Nat.le_refl _), ← accP_succ] at hxq
              have HY9 := Lib.hid hxq
              have HG9 := Lib.hid hF
              clear hxq hF
              go_wp2_with fail
              go_roundg (m - (k + 1))
              case measure => omega
              case rel => exact ⟨k + 1, by omega, by go_num, HX9.out.fr HG9.out (by omega), HY9.out, (HB8.out.trans ((Fr.below (B := W.heap.size) HF9.out HB8.out.size (fun q hq e => by have := HXG.out; omega)).mono (Nat.le_refl _))).trans ((Fr.below (B := W.heap.size) HG9.out (Nat.le_trans HB8.out.size HF9.out.size) (fun q hq e => by have := HXG.out; omega)).mono (Nat.le_refl _))⟩
    · obtain rfl : m = k := by omega
      have hltI : ¬ (m : Int) < (m : Int) := by omega
      obtain ⟨q0, q1, q2, q3⟩ := HBOX.out wo hB
      have haw := HAW.out wo hB
      have HX := Lib.hid hx
      have HY := Lib.hid hy
      have HB := Lib.hid hB
      clear hx hy hB
      go_wp2_with fail
      go_loopg [13] 16 (fun kk s wz => ∃ i : Nat, i + kk = 16 ∧ s = .int .i64 (i : Int) ∧ wo = wz)
      case atStart => exact ⟨0, by omega, rfl, rfl⟩
      case round =>
        obtain ⟨i, hi, rfl, rfl⟩ := hrel
        by_cases hlt : i < 16
        · have hltI : (i : Int) < 16 := by omega
          have kx : wo.cell? ⟨x0, i, none⟩ = some (.int .i64 (((accP L1 m).count (i : Int) : Nat) : Int)) := (HX.out.cell i).trans (cntL_get _ hlt)
          have ky : wo.cell? ⟨x0 + 1, i, none⟩ = some (.int .i64 (((accP L2 m).count (i : Int) : Nat) : Int)) := (HY.out.cell i).trans (cntL_get _ hlt)
          rw [HF1.out, HLE1.out] at kx
          rw [HF2.out, HLE2.out] at ky
          by_cases a1 : i < t.ins.length
          · by_cases a2 : i < t.outs.length
            · rw [if_pos a1] at kx
              rw [if_pos a2] at ky
              rw [show ((1 : Nat) : Int) = 1 from rfl] at kx
              rw [show ((1 : Nat) : Int) = 1 from rfl] at ky
              have i1 : (i : Int) < (t.ins.length : Int) := by omega
              have j1 : ¬ (t.ins.length : Int) ≤ (i : Int) := by omega
              have i2 : (i : Int) < (t.outs.length : Int) := by omega
              have j2 : ¬ (t.outs.length : Int) ≤ (i : Int) := by omega
              go_wp2_with fail
              go_roundg (16 - (i + 1))
              case measure => omega
              case rel => exact ⟨i + 1, by omega, by go_num, rfl⟩
            · rw [if_pos a1] at kx
              rw [if_neg a2] at ky
              rw [show ((1 : Nat) : Int) = 1 from rfl] at kx
              rw [show ((0 : Nat) : Int) = 0 from rfl] at ky
              have i1 : (i : Int) < (t.ins.length : Int) := by omega
              have j1 : ¬ (t.ins.length : Int) ≤ (i : Int) := by omega
              have i2 : ¬ (i : Int) < (t.outs.length : Int) := by omega
              have j2 : (t.outs.length : Int) ≤ (i : Int) := by omega
              go_wp2_with fail
              go_roundg (16 - (i + 1))
              case measure => omega
              case rel => exact ⟨i + 1, by omega, by go_num, rfl⟩
          · by_cases a2 : i < t.outs.length
            · rw [if_neg a1] at kx
              rw [if_pos a2] at ky
              rw [show ((0 : Nat) : Int) = 0 from rfl] at kx
              rw [show ((1 : Nat) : Int) = 1 from rfl] at ky
              have i1 : ¬ (i : Int) < (t.ins.length : Int) := by omega
              have j1 : (t.ins.length : Int) ≤ (i : Int) := by omega
              have i2 : (i : Int) < (t.outs.length : Int) := by omega
              have j2 : ¬ (t.outs.length : Int) ≤ (i : Int) := by omega
              go_wp2_with fail
              go_roundg (16 - (i + 1))
              case measure => omega
              case rel => exact ⟨i + 1, by omega, by go_num, rfl⟩
            · rw [if_neg a1] at kx
              rw [if_neg a2] at ky
              rw [show ((0 : Nat) : Int) = 0 from rfl] at kx
              rw [show ((0 : Nat) : Int) = 0 from rfl] at ky
              have i1 : ¬ (i : Int) < (t.ins.length : Int) := by omega
              have j1 : (t.ins.length : Int) ≤ (i : Int) := by omega
              have i2 : ¬ (i : Int) < (t.outs.length : Int) := by omega
              have j2 : (t.outs.length : Int) ≤ (i : Int) := by omega
              go_wp2_with fail
              go_roundg (16 - (i + 1))
              case measure => omega
              case rel => exact ⟨i + 1, by omega, by go_num, rfl⟩
        · obtain rfl : i = 16 := by omega
          rw [show ((16 : Nat) : Int) = 16 from rfl]
          go_wp2_with fail
          with_reducible refine haw.mono ?_
          rintro e w9 ⟨rfl, hB9⟩
          have HBE := Lib.hid (HB0.out.trans ((HB.out.trans (hB9.mono HB.out.size)).mono HB0.out.size))
          clear hB9
          go_wp2_with fail
          go_ret
          exact ⟨rfl, HBE.out⟩
end Go.Proofs.YtmflhidmhefljaaDoor
