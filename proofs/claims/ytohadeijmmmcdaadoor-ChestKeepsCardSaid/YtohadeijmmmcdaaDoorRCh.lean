/-
  The document's chest: sizes, what is left, what is fresh.
-/
import Derived.Test.YtohadeijmmmcdaaDoorSKeepB
import Derived.Test.YtohadeijmmmcdaaDoorRForm
import Derived.Deep.RegionHeld3
namespace Go.Proofs.YtohadeijmmmcdaaDoor
open Go.RowKit
set_option maxRecDepth 100000

/-- How many sectors a record has, or -1. -/
def szQ (t n : Int) (b : List Int) : Int := if formE t n b = 0 then (recS t.toNat n.toNat b : Int) else -1

theorem szQ_bd (t n : Int) (b : List Int) : -1 ≤ szQ t n b ∧ szQ t n b ≤ 1024 := by
  unfold szQ
  split
  · rename_i h
    have hr : ¬ (¬ (0 ≤ t ∧ t ≤ 1099511627776) ∨ ¬ (0 ≤ n ∧ n ≤ 1099511627776)) := fun h' => by
      unfold formE at h
      rw [if_pos h'] at h
      cases h
    obtain ⟨T, rfl⟩ : ∃ T : Nat, t = T := ⟨t.toNat, by omega⟩
    obtain ⟨N, rfl⟩ : ∃ N : Nat, n = N := ⟨n.toNat, by omega⟩
    have := (formE_zero h).2.2
    simp only [Int.toNat_natCast]
    omega
  · omega

set_option maxHeartbeats 4000000 in
theorem rsize_any (t n : Int) (A : Option Addr) (c : Nat) (hcA : A = none → c = 0) (b : List Int) (w : World) (hb : Byt w A b) (hlen : b.length ≤ 80000000) :
    Calls Tryd.prog 78 #[.int .i64 t, .int .i64 n, .slice A b.length c] w fun e w' => e = .returned (.int .i64 (szQ t n b)) ∧ Below w.heap.size w w' := by
  have hf := rform_any t n A c hcA b w hb hlen
  obtain ⟨m, hm⟩ : ∃ m, b.length = m := ⟨_, rfl⟩
  rw [hm] at hf ⊢
  have HF := Lib.hid hf
  clear hf hb hlen hm
  go_enter Tryd.func78, Tryd.ntmps78
  go_wp2_with fail
  with_reducible refine HF.out.mono ?_
  rintro e w1 ⟨⟨v1, rfl, o1⟩, b1⟩
  obtain ⟨A1, c1, rfl⟩ := o1.form
  have HB1 := Lib.hid b1
  clear b1
  by_cases hE : formE t n b = 0
  · have hV : (formV t n b).length = 64 * recS t.toNat n.toNat b := by
      unfold formV
      rw [if_pos hE, formP_len]
      unfold recS
      omega
    have hQ : szQ t n b = (recS t.toNat n.toNat b : Int) := by unfold szQ; rw [if_pos hE]
    rw [hE, hV]
    have HQ := Lib.hid hQ
    obtain ⟨R, hR⟩ : ∃ R, recS t.toNat n.toNat b = R := ⟨_, rfl⟩
    have hRb : R ≤ 1024 := by have h9 := (szQ_bd t n b).2; rw [hQ, hR] at h9; omega
    rw [hR] at HQ ⊢
    obtain ⟨N, hN⟩ : ∃ N, 64 * R = N := ⟨_, rfl⟩
    rw [hN]
    have hd : (N : Int) / 64 = (R : Int) := by omega
    clear o1 hE hV hQ hR hN
    go_wp2_with fail
    go_ret
    exact ⟨by rw [HQ.out]; rfl, HB1.out⟩
  · have hQ : szQ t n b = -1 := by unfold szQ; rw [if_neg hE]
    have HQ := Lib.hid hQ
    obtain ⟨E, hEE⟩ : ∃ E, formE t n b = E := ⟨_, rfl⟩
    rw [hEE] at hE ⊢
    have hEb : (E != 0) = true := by simp [hE]
    clear o1 hQ hEE hE
    go_wp2_with fail
    go_ret
    exact ⟨by rw [HQ.out]; rfl, HB1.out⟩

/-- The document's chest as a value. -/
def chL (t h : Int) (v : Value) : List Value := [.int .i64 t, .int .i64 h, v]
/-- What is left by the document. -/
def leftQ (t h : Int) (L : List (List Int)) : Nat → Int
  | 0 => h
  | k + 1 => leftQ t h L k - szQ t (k : Int) (L.getD k [])
theorem leftQ_bd (t h : Int) (L : List (List Int)) : ∀ k : Nat, h - 1024 * k ≤ leftQ t h L k ∧ leftQ t h L k ≤ h + k
  | 0 => by simp [leftQ]
  | k + 1 => by
    have := leftQ_bd t h L k
    have := szQ_bd t (k : Int) (L.getD k [])
    simp only [leftQ]
    omega
attribute [irreducible] leftQ szQ

theorem TxsV.at2 {w : World} {A : Option Addr} {xs : List Value} {L : List (List Int)} (h : TxsV w A xs L) {i : Nat} (hi : i < L.length) :
    ∃ g o B d, A = some ⟨g, o, none⟩ ∧ w.cell? ⟨g, o + i, none⟩ = some (.slice B (L.getD i []).length d) ∧ Byt w B (L.getD i []) ∧ (B = none → d = 0) := by
  have hx : i < xs.length := by rw [h.len]; exact hi
  obtain ⟨g, o, rfl, _, hc⟩ := h.cell (by omega)
  obtain ⟨B, d, e, hb, hn⟩ := h.txt i hx hi
  have hL : L.getD i [] = L[i] := by simp [List.getD, hi]
  rw [hL]
  exact ⟨g, o, B, d, rfl, by rw [hc i xs[i] (by simp [hx]), e], hb, hn⟩

section
set_option maxHeartbeats 8000000 in
theorem rchleft_any (t h : Int) (hh : 0 ≤ h ∧ h ≤ 1000000) (A : Option Addr) (c : Nat) (xs : List Value) (L : List (List Int)) (w : World) (hT : TxsV w A xs L) (hL : L.length ≤ 1000000) (hl : ∀ l ∈ L, l.length ≤ 80000000) :
    Calls Tryd.prog 77 #[.agg (chL t h (.slice A L.length c)).toArray] w fun e w' => e = .returned (.int .i64 (leftQ t h L L.length)) ∧ Below w.heap.size w w' := by
  obtain ⟨n, hn⟩ : ∃ n, L.length = n := ⟨_, rfl⟩
  rw [hn] at hL ⊢
  have b0 := Blk.new w 75 (chL t h (.slice A n c)).toArray
  have B0 : Below w.heap.size w (w.alloc (.cells (chL t h (.slice A n c)).toArray 75)) := (Below.refl _ w).alloc (Nat.le_refl _) _
  obtain ⟨W, hW⟩ : ∃ W, w.alloc (.cells (chL t h (.slice A n c)).toArray 75) = W := ⟨_, rfl⟩
  rw [hW] at b0 B0
  have HW := Lib.hid hW
  have HB0 := Lib.hid b0
  have HBl := Lib.hid B0
  have HT := Lib.hid (hT.below B0)
  have HN := Lib.hid hn
  have HLL := Lib.hid hl
  have q1 : W.cell? ⟨w.heap.size, 1, none⟩ = some (.int .i64 h) := (b0.cell 1).trans rfl
  have hwl : w.heap.size < W.heap.size := b0.lt
  clear hW b0 B0 hT hn hl
  go_enter Tryd.func77, Tryd.ntmps77
  go_upto_region 1 with fail
  rw [HW.out]
  go_wp2_with fail
  clear q1
  go_loopg [3, 4] n (fun k v t' wr => ∃ i : Nat, i + k = n ∧ t' = .int .i64 (i : Int) ∧ v = .int .i64 (leftQ t h L i) ∧ Below W.heap.size W wr)
  case atStart => exact ⟨0, by omega, rfl, by rw [leftQ], Below.refl _ _⟩
  case round =>
    obtain ⟨i, hi, rfl, rfl, hbl⟩ := hrel
    have q0 : wr.cell? ⟨w.heap.size, 0, none⟩ = some (.int .i64 t) := (hbl.cell (p := ⟨w.heap.size, 0, none⟩) hwl).trans ((HB0.out.cell 0).trans rfl)
    have q2 : wr.cell? ⟨w.heap.size, 2, none⟩ = some (.slice A n c) := (hbl.cell (p := ⟨w.heap.size, 2, none⟩) hwl).trans ((HB0.out.cell 2).trans rfl)
    by_cases hin : i < n
    · have hinI : (i : Int) < (n : Int) := by omega
      have hTr := HT.out.below hbl
      obtain ⟨g, o, B, d, rfl, k1, y1, hnul⟩ := hTr.at2 (i := i) (by rw [HN.out]; exact hin)
      have hle : (L.getD i []).length ≤ 80000000 := by
        have h1 : i < L.length := by rw [HN.out]; exact hin
        have e : L.getD i [] = L[i] := by simp [List.getD, h1]
        rw [e]
        exact HLL.out _ (List.getElem_mem h1)
      obtain ⟨x, hx⟩ : ∃ x, L.getD i [] = x := ⟨_, rfl⟩
      rw [hx] at k1 y1 hle
      have hz := rsize_any t (i : Int) B d hnul x wr.drew (y1.below (Below.refl _ wr).drew) hle
      have hbd := leftQ_bd t h L i
      have hzb := szQ_bd t (i : Int) x
      have hsucc : leftQ t h L (i + 1) = leftQ t h L i - szQ t (i : Int) x := by rw [leftQ, hx]
      obtain ⟨Q, hQ⟩ : ∃ Q, leftQ t h L i = Q := ⟨_, rfl⟩
      obtain ⟨Z, hZ⟩ : ∃ Z, szQ t (i : Int) x = Z := ⟨_, rfl⟩
      obtain ⟨m, hm⟩ : ∃ m, x.length = m := ⟨_, rfl⟩
      rw [hm] at k1 hz
      rw [hQ] at hbd hsucc ⊢
      rw [hZ] at hz hzb hsucc
      have hwz : IntKind.i64.wrap (Q - Z) = Q - Z := by rw [IntKind.wrap_i64]; omega
      have HZ := Lib.hid hz
      have HS := Lib.hid hsucc
      have HBr := Lib.hid hbl
      clear hTr y1 hnul hle hx hz hsucc hQ hZ hm hbl
      go_wp2_with fail
      refine wp_txJ [3, 3, 0, 3, 3, 0, 3, 3, 0, 2, 3, 3] (fun X => X = wr.drew) (by kernel_rfl) (by kernel_rfl) (by kernel_rfl) (by kernel_rfl) ?_ ?_
      focus rfl
      iterate 2 (with_reducible refine wpTxJ_evN (v := ?_) (a' := ?_) (by with_unfolding_all rfl) (fun W' => ?_) ?_ ?_; rotate_left 2; (focus (go_simp <;> with_reducible rfl)); focus (go_simp <;> with_reducible rfl))
      iterate 1 (with_reducible refine wpTxJ_takeN (v := ?_) (a' := ?_) (by with_unfolding_all rfl) (fun W' hS => ?_) ?_ ?_; rotate_left 2; (focus (subst hS; go_simp <;> with_reducible rfl)); focus (go_simp <;> with_reducible rfl))
      iterate 2 (with_reducible refine wpTxJ_evN (v := ?_) (a' := ?_) (by with_unfolding_all rfl) (fun W' => ?_) ?_ ?_; rotate_left 2; (focus (go_simp <;> with_reducible rfl)); focus (go_simp <;> with_reducible rfl))
      iterate 1 (with_reducible refine wpTxJ_takeN (v := ?_) (a' := ?_) (by with_unfolding_all rfl) (fun W' hS => ?_) ?_ ?_; rotate_left 2; (focus (subst hS; go_simp <;> with_reducible rfl)); focus (go_simp <;> with_reducible rfl))
      iterate 2 (with_reducible refine wpTxJ_evN (v := ?_) (a' := ?_) (by with_unfolding_all rfl) (fun W' => ?_) ?_ ?_; rotate_left 2; (focus (go_simp <;> with_reducible rfl)); focus (go_simp <;> with_reducible rfl))
      iterate 1 (with_reducible refine wpTxJ_takeN (v := ?_) (a' := ?_) (by with_unfolding_all rfl) (fun W' hS => ?_) ?_ ?_; rotate_left 2; (focus (subst hS; go_simp <;> with_reducible rfl)); focus (go_simp <;> with_reducible rfl))
      with_reducible refine wpTxJ_last (by with_unfolding_all rfl) (fun K hK => ?_)
      go_simp
      with_reducible refine HZ.out.mono ?_
      rintro e w5 ⟨rfl, b5⟩
      with_reducible refine hK _ _ ?_
      clear hK K
      have HB5 := Lib.hid b5
      clear b5
      iterate 2 (with_reducible refine wpTxJ_evN (v := ?_) (a' := ?_) (by with_unfolding_all rfl) (fun W' => ?_) ?_ ?_; rotate_left 2; (focus (go_simp <;> with_reducible rfl)); focus (go_simp <;> with_reducible rfl))
      with_reducible refine wpTxJ_nil ?_
      rw [noPan_normal]
      go_wp2_with fail
      go_roundg (n - (i + 1))
      case measure => omega
      case rel => exact ⟨i + 1, by omega, by go_num, by rw [HS.out], HBr.out.trans ((HB5.out.mono (by simp)).trans (Below.refl _ _) |> fun h => (Below.refl _ wr).drew.trans h |> fun h => h.mono HBr.out.size)⟩
    · obtain rfl : i = n := by omega
      have hinI : ¬ ((i : Int) < (i : Int)) := by omega
      have HBr := Lib.hid hbl
      clear hbl
      go_wp2_with fail
      go_ret
      exact ⟨rfl, HBl.out.trans (HBr.out.mono HBl.out.size)⟩
end

/-! ### The document's chest, and where its texts lie -/
theorem ld75 (v : Value) : Instr.loadAt 75 v = LDs 75 v := rfl
theorem st75 (v x : Value) : Instr.storeAt 75 v x = STs 75 v x := rfl
theorem al75 : Instr.alloc 75 true (.tuple #[]) = ALs 75 := rfl
theorem bd75 (parts : Array (Nat × Value)) : Instr.build 75 parts = BDs 75 parts := rfl
theorem i75 : (Tryd.prog.info? 75).map (·.size) = some 3 := by kernel_rfl
theorem u75 : (Tryd.prog.underlying 75).map isAggD = some true := by kernel_rfl
theorem z75 : (Tryd.prog.info? 75).bind (·.zero) = some (.agg #[.int .i64 0, .int .i64 0, .slice none 0 0]) := by kernel_rfl
theorem bd75_3 (a b : Int) (A : Option Addr) (n d : Nat) (W : World) : (BDs 75 #[(0, .int .i64 a), (1, .int .i64 b), (2, .slice A n d)]).run Tryd.prog W = .ok (.agg (chL a b (.slice A n d)).toArray) W := by kernel_rfl
theorem chL_one (a b : Int) (A : Option Addr) (n d : Nat) : ∀ v ∈ chL a b (.slice A n d), v.oneCell' = true := by
  intro v hv
  simp only [chL, List.mem_cons, List.mem_nil_iff, or_false] at hv
  rcases hv with rfl | rfl | rfl <;> rfl
theorem al75_new (W : World) : (ALs 75).run Tryd.prog W = .ok (.pointer (some ⟨W.heap.size, 0, none⟩)) (W.alloc (.cells (chL 0 0 (.slice none 0 0)).toArray 75)) := ALs_new _ z75 W
theorem st75_blk {W : World} {g : Nat} {cs : Array Value} (h : Blk W g 75 cs) (hc : cs.size = 3) (x y : Int) (A : Option Addr) (n d : Nat) :
    (STs 75 (.pointer (some ⟨g, 0, none⟩)) (.agg (chL x y (.slice A n d)).toArray)).run Tryd.prog W = .ok () (W.setRow g (chL x y (.slice A n d)).toArray) := by
  have := STs_blk (P := Tryd.prog) (t := 75) i75 h (off := 0) (chL x y (.slice A n d)) rfl (by omega) (chL_one _ _ _ _ _)
  rw [splice_whole _ _ (by simp [hc, chL])] at this
  exact this
theorem ld75_blk {W : World} {g : Nat} {x y : Int} {v : Value} (h : Blk W g 75 (chL x y v).toArray) :
    (LDs 75 (.pointer (some ⟨g, 0, none⟩))).run Tryd.prog W = .ok (.agg (chL x y v).toArray) W := by
  obtain ⟨d, hd, he⟩ := Option.map_eq_some_iff.1 u75
  exact LDs_blk (P := Tryd.prog) hd he i75 h (off := 0) (chL x y v) rfl rfl
theorem ch_parts {X : World} {g : Nat} {a b : Int} {v : Value} (h : Blk X g 75 (chL a b v).toArray) :
    X.cell? ⟨g, 0, none⟩ = some (.int .i64 a) ∧ X.cell? ⟨g, 1, none⟩ = some (.int .i64 b) ∧ X.cell? ⟨g, 2, none⟩ = some v :=
  ⟨(h.cell 0).trans rfl, (h.cell 1).trans rfl, (h.cell 2).trans rfl⟩

/-- The slice has the texts L; each block is older than n₀, or a row of texts or of bytes. -/
structure ChT (n₀ : Nat) (w : World) (A : Option Addr) (c : Nat) (L : List (List Int)) : Prop where
  ex : ∃ xs, TxsV w A xs L ∧ ∀ i (h : i < xs.length) (h' : i < L.length), ∀ k, xs[i].ownBlock = some k → 0 < L[i].length → k < n₀ ∨ ∃ cs, Blk w k 5 cs
  nul : A = none → c = 0
  row : ∀ a, A = some a → 0 < L.length → a.block < n₀ ∨ ∃ cs, Blk w a.block 22 cs
  bd : ∀ l ∈ L, (∀ x ∈ l, 0 ≤ x ∧ x ≤ 255) ∧ l.length ≤ 80000000
  cap : L.length ≤ c
section
variable {n₀ : Nat} {w w' : World} {A : Option Addr} {c : Nat} {L : List (List Int)}
theorem ChT.below (h : ChT n₀ w A c L) (hb : Below w.heap.size w w') (_hn : n₀ ≤ w.heap.size) : ChT n₀ w' A c L := by
  obtain ⟨xs, h1, h2⟩ := h.ex
  have hk : ∀ (t : TypeId) (k : Nat), (∃ cs, Blk w k t cs) → ∃ cs, Blk w' k t cs := fun t k ⟨cs, hc⟩ => ⟨cs, hc.fr (Fr.of_below hb) (by have := hc.lt; omega)⟩
  exact ⟨⟨xs, h1.below hb, fun i hi hi' k hk0 h0 => (h2 i hi hi' k hk0 h0).imp id (hk _ k)⟩, h.nul, fun a ha h0 => (h.row a ha h0).imp id (hk _ _), h.bd, h.cap⟩
theorem ChT.kept {ts : List TypeId} (h : ChT n₀ w A c L) (hk : Kept n₀ ts w w') (hu : 5 ∉ ts) (ht : 22 ∉ ts) : ChT n₀ w' A c L := by
  obtain ⟨xs, h1, h2⟩ := h.ex
  have hb : ∀ (t : TypeId) (k : Nat), t ∉ ts → (∃ cs, Blk w k t cs) → ∃ cs, Blk w' k t cs := fun t k hn ⟨cs, hc⟩ => ⟨cs, hk.kt _ _ _ hc hn⟩
  refine ⟨⟨xs, ⟨h1.len, fun h0 => ?_, fun i hi hi' => ?_⟩, fun i hi hi' k hk0 h0 => (h2 i hi hi' k hk0 h0).imp id (hb _ k hu)⟩, h.nul, fun a ha h0 => (h.row a ha h0).imp id (hb _ _ ht), h.bd, h.cap⟩
  · obtain ⟨g, o, rfl, hg, hc⟩ := h1.cell h0
    refine ⟨g, o, rfl, Nat.lt_of_lt_of_le hg hk.size, fun j x hx => ?_⟩
    rw [← hc j x hx]
    rcases h.row _ rfl (by rw [← h1.len]; exact h0) with h3 | ⟨cs, h3⟩
    · exact hk.below.cell (p := ⟨g, o + j, none⟩) h3
    · exact ((hk.kt _ _ _ h3 ht).cell (o + j)).trans (h3.cell (o + j)).symm
  · obtain ⟨A', c', e, hy, hn⟩ := h1.txt i hi hi'
    exact ⟨A', c', e, hy.keptS hk hu (fun a ha h0 => h2 i hi hi' a.block (by rw [e, ha]; rfl) h0), hn⟩
theorem ChT.nil (n₀ : Nat) (w : World) : ChT n₀ w none 0 [] := ⟨⟨[], ⟨rfl, fun h => by simp at h, fun i h => by simp at h⟩, fun i h => by simp at h⟩, fun _ => rfl, fun a e => (by cases e), fun l h => (by cases h), Nat.le_refl _⟩
end

section
attribute [local go_sem ↓] ld75 st75 al75 bd75 apt33_of apt22_of
attribute [local go_sem] al75_new bd75_3

set_option maxHeartbeats 4000000 in
theorem rfresh_any (n₀ : Nat) (h : Int) (w : World) (_hn : n₀ ≤ w.heap.size) :
    Calls Tryd.prog 39 #[.int .i64 h] w fun e w' => (∃ A c, e = .returned (.agg (chL 1 h (.slice A 1 c)).toArray) ∧ ChT n₀ w' A c [[]] ∧ ∀ a, A = some a → w.heap.size ≤ a.block) ∧ Below w.heap.size w w' := by
  have b0 := ((Blk.new w 75 (chL 0 0 (.slice none 0 0)).toArray).alloc (.cells #[] 5)).alloc (.cells #[.slice (some ⟨w.heap.size + 1, 0, none⟩) 0 0] 22)
  have b2 := Blk.new ((w.alloc (.cells (chL 0 0 (.slice none 0 0)).toArray 75)).alloc (.cells #[] 5)) 22 #[.slice (some ⟨w.heap.size + 1, 0, none⟩) 0 0]
  have B : Below w.heap.size w (((w.alloc (.cells (chL 0 0 (.slice none 0 0)).toArray 75)).alloc (.cells #[] 5)).alloc (.cells #[.slice (some ⟨w.heap.size + 1, 0, none⟩) 0 0] 22)) := (((Below.refl _ w).alloc (Nat.le_refl _) _).alloc (by simp) _).alloc (by simp; omega) _
  simp only [World.size_alloc] at b2
  have hst := st75_blk b0 rfl 1 h (some ⟨w.heap.size + 1 + 1, 0, none⟩) 1 1
  have HB0 := Lib.hid b0
  have HB2 := Lib.hid b2
  have HB := Lib.hid B
  clear b0 b2 B
  go_enter Tryd.func39, Tryd.ntmps39
  go_wp2_with fail
  obtain ⟨d, hd, he⟩ := Option.map_eq_some_iff.1 u75
  refine bodyPost_ret (results_arr rfl _ _ w.heap.size 75 (chL 1 h (.slice (some ⟨w.heap.size + 1 + 1, 0, none⟩) 1 1)) d rfl (HB0.out.row_ _) hd he i75) rfl ⟨⟨_, _, rfl, ?_, fun a ha => by cases ha; simp only; omega⟩, Below.setRow HB.out (Nat.le_refl _) _⟩
  have hb3 := HB2.out.rowFar (g' := w.heap.size) (by omega) (chL 1 h (.slice (some ⟨w.heap.size + 1 + 1, 0, none⟩) 1 1)).toArray
  refine ⟨⟨[.slice (some ⟨w.heap.size + 1, 0, none⟩) 0 0], ⟨rfl, fun _ => ⟨w.heap.size + 1 + 1, 0, rfl, hb3.lt, fun j x hx => ?_⟩, fun i hi hi' => ?_⟩, fun i hi hi' k hk h0 => ?_⟩, fun e => (by cases e), fun a ha _ => ?_, fun l hl => ?_, Nat.le_refl _⟩
  · rw [Nat.zero_add, hb3.cell j]
    simpa using hx
  · obtain rfl : i = 0 := by simpa using hi
    exact ⟨_, _, rfl, Byt.nil _ _, by simp⟩
  · obtain rfl : i = 0 := by simpa using hi
    simp at h0
  · cases ha
    exact .inr ⟨_, hb3⟩
  · simp at hl
    subst hl
    exact ⟨fun x hx => (by cases hx), by simp⟩

theorem ChT.setRow {n₀ g : Nat} {X : World} {A : Option Addr} {c : Nat} {L : List (List Int)} {cs : Array Value} (hC : ChT n₀ X A c L) (hg : Blk X g 75 cs) (hn : n₀ ≤ g) (G : Array Value) : ChT n₀ (X.setRow g G) A c L :=
  hC.kept (n₀ := n₀) (ts := [75]) (Kept.of_fr ((Fr.refl (fun k => k = g) X).setRow (fun _ => rfl) G) (by have := hg.lt; omega) (fun k hk e => by omega) (fun k t cs' e hb => by
    subst e
    rw [(hb.inj hg).1]
    simp)) (by decide) (by decide)

/-- The document's turn: the error, the turn, the records. -/
def changeQ (t h : Int) (L : List (List Int)) (b : List Int) : Int × Int × List (List Int) :=
  if 1099511627776 ≤ t then (5, t, L) else if szQ (t + 1) 0 b < 0 then (4, t, L) else if h < szQ (t + 1) 0 b then (18, t, L) else (0, t + 1, [b])
/-- What is behind Keep and Change. -/
def ChPost (n₀ : Nat) (h : Int) (w : World) (A0 : Option Addr) (R : Int × Int × List (List Int)) (e : Ending) (w' : World) : Prop :=
  ∃ A c, e = .returned (.tuple #[.agg (chL R.2.1 h (.slice A R.2.2.length c)).toArray, .int .i64 R.1]) ∧ ChT n₀ w' A c R.2.2 ∧ ∀ a, A = some a → A0 = some a ∨ w.heap.size ≤ a.block

set_option maxHeartbeats 8000000 in
theorem rchange_any (n₀ : Nat) (t h : Int) (_hh : 0 ≤ h ∧ h ≤ 1000000) (ht : 0 ≤ t ∧ t ≤ 9223372036854775807) (A : Option Addr) (c : Nat) (L : List (List Int)) (B : Option Addr) (d : Nat) (hd : B = none → d = 0) (b : List Int) (w : World) (hC : ChT n₀ w A c L) (hb : Byt w B b) (hbl : b.length ≤ 80000000) (hn : n₀ ≤ w.heap.size) :
    Calls Tryd.prog 41 #[.agg (chL t h (.slice A L.length c)).toArray, .slice B b.length d] w fun e w' => ChPost n₀ h w A (changeQ t h L b) e w' ∧ Below w.heap.size w w' := by
  obtain ⟨n, hnL⟩ : ∃ n, L.length = n := ⟨_, rfl⟩
  obtain ⟨m, hm⟩ : ∃ m, b.length = m := ⟨_, rfl⟩
  rw [hnL, hm]
  have b0 := (Blk.new w 75 (chL t h (.slice A n c)).toArray).alloc (.cells (chL 0 0 (.slice none 0 0)).toArray 75)
  have b1 := Blk.new (w.alloc (.cells (chL t h (.slice A n c)).toArray 75)) 75 (chL 0 0 (.slice none 0 0)).toArray
  have B0 : Below w.heap.size w ((w.alloc (.cells (chL t h (.slice A n c)).toArray 75)).alloc (.cells (chL 0 0 (.slice none 0 0)).toArray 75)) := ((Below.refl _ w).alloc (Nat.le_refl _) _).alloc (by simp) _
  simp only [World.size_alloc] at b1
  obtain ⟨W, hW⟩ : ∃ W, (w.alloc (.cells (chL t h (.slice A n c)).toArray 75)).alloc (.cells (chL 0 0 (.slice none 0 0)).toArray 75) = W := ⟨_, rfl⟩
  rw [hW] at b0 b1 B0
  have hWs : w.heap.size + 1 < W.heap.size := b1.lt
  have hend : ∀ (X : World) (G : List Value) (tm : Array Value) (v : Value), Blk X (w.heap.size + 1) 75 (chL 0 0 (.slice none 0 0)).toArray → G.length = 3 → tm.getD 4 undef = .pointer (some ⟨w.heap.size + 1, 0, none⟩) → tm.getD 5 undef = v →
      (results Tryd.f41 tm).run Tryd.prog (X.setRow (w.heap.size + 1) G.toArray) = .ok (.tuple #[.agg G.toArray, v]) (X.setRow (w.heap.size + 1) G.toArray) := fun X G tm v hX hG h2 h3 => by
    obtain ⟨d, hd, he⟩ := Option.map_eq_some_iff.1 u75
    exact results_ct rfl tm _ (w.heap.size + 1) _ _ (0, 0) (hX.row_ G.toArray) hd he (by rw [List.size_toArray, hG]; exact i75) h2 h3
  obtain ⟨q0, q1, q2⟩ := ch_parts b0
  have HEND := Lib.hid hend
  have HW := Lib.hid hW
  have H0 := Lib.hid b0
  have H1 := Lib.hid b1
  have HB := Lib.hid B0
  have HC := Lib.hid (hC.below B0 hn)
  have HY := Lib.hid (hb.below B0)
  have HNL := Lib.hid hnL
  have HM := Lib.hid hm
  rw [hm] at hbl
  clear hend hW b0 b1 B0 hC hb hnL hm q2
  go_enter Tryd.func41, Tryd.ntmps41
  go_upto_region 1 with fail
  rw [HW.out]
  -- nothing turned
  have hsame : ∀ X : World, Below W.heap.size W X → (LDs 75 (.pointer (some ⟨w.heap.size, 0, none⟩))).run Tryd.prog X = .ok (.agg (chL t h (.slice A n c)).toArray) X ∧
      (STs 75 (.pointer (some ⟨w.heap.size + 1, 0, none⟩)) (.agg (chL t h (.slice A n c)).toArray)).run Tryd.prog X = .ok () (X.setRow (w.heap.size + 1) (chL t h (.slice A n c)).toArray) ∧
      Blk X (w.heap.size + 1) 75 (chL 0 0 (.slice none 0 0)).toArray ∧ ChT n₀ (X.setRow (w.heap.size + 1) (chL t h (.slice A n c)).toArray) A c L ∧ Below w.heap.size w (X.setRow (w.heap.size + 1) (chL t h (.slice A n c)).toArray) := fun X hX => by
    have x0 := H0.out.fr (Fr.of_below hX) (by omega)
    have x1 := H1.out.fr (Fr.of_below hX) (by omega)
    exact ⟨ld75_blk x0, st75_blk x1 rfl t h A n c, x1, (HC.out.below hX (by omega)).setRow x1 (by omega) _, Below.setRow (HB.out.trans (hX.mono HB.out.size)) (by omega) _⟩
  by_cases h5 : 1099511627776 ≤ t
  · have hQ : changeQ t h L b = (5, t, L) := by unfold changeQ; rw [if_pos h5]
    obtain ⟨r1, r2, r3, r4, r5⟩ := hsame W (Below.refl _ _)
    have HQ := Lib.hid hQ
    have R3 := Lib.hid r3
    have R4 := Lib.hid r4
    have R5 := Lib.hid r5
    clear hQ r3 r4 r5 hsame
    go_wp2_with fail
    exact bodyPost_ret (HEND.out _ _ _ _ R3.out rfl rfl rfl) rfl ⟨by rw [HQ.out]; exact ⟨A, c, by simp only; rw [HNL.out]; rfl, R4.out, fun a h => .inl h⟩, R5.out⟩
  have h5' : t < 1099511627776 := by omega
  have hz := rsize_any (t + 1) 0 B d hd b W HY.out (by rw [HM.out]; exact hbl)
  rw [HM.out] at hz
  obtain ⟨Z, hZ⟩ : ∃ Z, szQ (t + 1) 0 b = Z := ⟨_, rfl⟩
  have hzb := szQ_bd (t + 1) 0 b
  rw [hZ] at hz hzb
  have HZ := Lib.hid hz
  have HZe := Lib.hid hZ
  clear hz hZ
  go_wp2_with fail
  with_reducible refine HZ.out.mono ?_
  rintro e w5 ⟨rfl, b5⟩
  obtain ⟨r1, r2, r3, r4, r5⟩ := hsame w5 b5
  have R3 := Lib.hid r3
  have R4 := Lib.hid r4
  have R5 := Lib.hid r5
  have HB5 := Lib.hid b5
  clear r3 r4 r5 hsame b5 HZ
  by_cases hneg : Z < 0
  · have hQ : changeQ t h L b = (4, t, L) := by unfold changeQ; rw [if_neg (by omega), if_pos (by rw [HZe.out]; exact hneg)]
    have HQ := Lib.hid hQ
    clear hQ
    go_wp2_with fail
    exact bodyPost_ret (HEND.out _ _ _ _ R3.out rfl rfl rfl) rfl ⟨by rw [HQ.out]; exact ⟨A, c, by simp only; rw [HNL.out]; rfl, R4.out, fun a h => .inl h⟩, R5.out⟩
  have hneg' : 0 ≤ Z := by omega
  have q1' : w5.cell? ⟨w.heap.size, 1, none⟩ = some (.int .i64 h) := (HB5.out.cell (p := ⟨w.heap.size, 1, none⟩) (by simp only; omega)).trans q1
  have q0' : w5.cell? ⟨w.heap.size, 0, none⟩ = some (.int .i64 t) := (HB5.out.cell (p := ⟨w.heap.size, 0, none⟩) (by simp only; omega)).trans q0
  by_cases hfull : h < Z
  · have hQ : changeQ t h L b = (18, t, L) := by unfold changeQ; rw [if_neg (by omega), if_neg (by rw [HZe.out]; exact hneg), if_pos (by rw [HZe.out]; exact hfull)]
    have HQ := Lib.hid hQ
    clear hQ
    go_wp2_with fail
    exact bodyPost_ret (HEND.out _ _ _ _ R3.out rfl rfl rfl) rfl ⟨by rw [HQ.out]; exact ⟨A, c, by simp only; rw [HNL.out]; rfl, R4.out, fun a h => .inl h⟩, R5.out⟩
  have hfull' : Z ≤ h := by omega
  have hQ : changeQ t h L b = (0, t + 1, [b]) := by unfold changeQ; rw [if_neg (by omega), if_neg (by rw [HZe.out]; exact hneg), if_neg (by rw [HZe.out]; exact hfull)]
  have h0 : Own8 w5.heap.size (w5.alloc (.cells #[] 5)).drew (.slice (some ⟨w5.heap.size, 0, none⟩) 0 0) [] := own_nul w5 _ _ (Nat.le_refl _)
  have b5a : Below w5.heap.size w5 (w5.alloc (.cells #[] 5)).drew := ((Below.refl _ w5).alloc (Nat.le_refl _) _).drew
  obtain ⟨v6, w6, hap, o6, f6, _⟩ := app8 (ty := 22) (c := d) h0 ((HY.out.below HB5.out).below b5a) (by rw [HM.out]; simp; omega) (by simp) hd
  rw [List.nil_append] at o6
  obtain ⟨A6, c6, rfl⟩ := o6.form
  have b6 : Below w5.heap.size w5 w6 := b5a.trans (f6.below (by simp) (fun k hk e => by have := (h0.lt e).1; omega))
  rw [HM.out] at hap o6
  have x1 := (R3.out.fr (Fr.of_below b6) (by have := R3.out.lt; omega)).alloc (.cells #[.slice A6 m c6] 22)
  have hst := st75_blk x1 rfl (IntKind.i64.wrap (t + 1)) h (some ⟨w6.heap.size, 0, none⟩) 1 1
  have hwt : IntKind.i64.wrap (t + 1) = t + 1 := by rw [IntKind.wrap_i64]; omega
  have HWT := Lib.hid hwt
  have hbk := Blk.new w6 22 #[.slice A6 m c6]
  have HQ := Lib.hid hQ
  have HO6 := Lib.hid o6
  have HB6 := Lib.hid b6
  have HX1 := Lib.hid x1
  have HBK := Lib.hid hbk
  have HW5 : W.heap.size ≤ w5.heap.size := HB5.out.size
  clear hQ h0 b5a o6 f6 b6 x1 hbk r1 r2 q0 q1 hwt
  go_wp2_with fail
  have k0 : w5.drew.cell? ⟨w.heap.size, 0, none⟩ = some (.int .i64 t) := q0'
  have k1 : w5.drew.cell? ⟨w.heap.size, 1, none⟩ = some (.int .i64 h) := q1'
  have k2 : w6.cell? ⟨w.heap.size, 0, none⟩ = some (.int .i64 t) := (HB6.out.cell (p := ⟨w.heap.size, 0, none⟩) (by simp only; omega)).trans q0'
  have k3 : w6.cell? ⟨w.heap.size, 1, none⟩ = some (.int .i64 h) := (HB6.out.cell (p := ⟨w.heap.size, 1, none⟩) (by simp only; omega)).trans q1'
  have hw6 : W.heap.size ≤ w6.heap.size := Nat.le_trans HW5 HB6.out.size
  have k4 : ∀ G, ((w6.alloc (.cells #[.slice A6 m c6] 22)).setRow (w.heap.size + 1) G).cell? ⟨w.heap.size, 0, none⟩ = some (.int .i64 t) := fun G =>
    ((Below.setRow ((Below.refl (w.heap.size + 1) w6).alloc (by omega) _) (Nat.le_refl _) G).cell (p := ⟨w.heap.size, 0, none⟩) (by simp)).trans k2
  have k5 : ∀ G, ((w6.alloc (.cells #[.slice A6 m c6] 22)).setRow (w.heap.size + 1) G).cell? ⟨w.heap.size, 1, none⟩ = some (.int .i64 h) := fun G =>
    ((Below.setRow ((Below.refl (w.heap.size + 1) w6).alloc (by omega) _) (Nat.le_refl _) G).cell (p := ⟨w.heap.size, 1, none⟩) (by simp)).trans k3
  go_region_held3 (fun w' => w'.cell? ⟨w.heap.size, 0, none⟩ = some (.int .i64 t) ∧ w'.cell? ⟨w.heap.size, 1, none⟩ = some (.int .i64 h)) (first | (go_keep; done) | exact ⟨k4 _, k5 _⟩) (fail)
  go_wp2_with fail
  simp only [HWT.out]
  obtain ⟨A', c', e, hy6, _, _⟩ := HO6.out.byt HY.out.bd
  cases e
  have hin : Below w.heap.size w (w6.alloc (.cells #[.slice A6 b.length c6] 22)) := (HB.out.trans ((HB5.out.trans (HB6.out.mono HB5.out.size)).mono HB.out.size)).alloc (by have := HB.out.size; omega) _
  have hy7 : Byt (w6.alloc (.cells #[.slice A6 b.length c6] 22)) A6 b := hy6.below ((Below.refl _ _).alloc (Nat.le_refl _) _)
  have hT : ChT n₀ (w6.alloc (.cells #[.slice A6 b.length c6] 22)) (some ⟨w6.heap.size, 0, none⟩) 1 [b] := by
    refine ⟨⟨[.slice A6 b.length c6], ⟨rfl, fun _ => ⟨w6.heap.size, 0, rfl, HBK.out.lt, fun j x hx => ?_⟩, fun i hi hi' => ?_⟩, fun i hi hi' k hk h0 => ?_⟩, fun e => (by cases e), fun a ha _ => ?_, fun l hl => ?_, Nat.le_refl _⟩
    · rw [Nat.zero_add, HBK.out.cell j]
      simpa using hx
    · obtain rfl : i = 0 := by simpa using hi
      exact ⟨A6, c6, rfl, hy7, fun e => by subst e; exact HO6.out.nul⟩
    · obtain rfl : i = 0 := by simpa using hi
      obtain ⟨cs, hc, _⟩ := own_blk HO6.out hk
      exact .inr ⟨cs, hc.alloc _⟩
    · cases ha
      exact .inr ⟨_, HBK.out⟩
    · simp at hl
      subst hl
      exact ⟨HY.out.bd, hbl⟩
  exact bodyPost_ret (HEND.out _ _ _ _ HX1.out rfl rfl rfl) rfl ⟨by rw [HQ.out]; exact ⟨some ⟨w6.heap.size, 0, none⟩, 1, rfl, hT.setRow HX1.out (by omega) _, fun a h => .inr (by cases h; simp only; omega)⟩, Below.setRow hin (by omega) _⟩
end
