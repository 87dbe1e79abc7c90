/-
  The document's digests, plainly: the same words in another order.
  The document's digests: a word turned; a slice of words of one's own.
  The document's records, plainly: a number's bytes, and when there is no record.
  The document's numbers as bytes, lengths, digests and sums of fields.
  The document's next field: a number, a text.
-/
import Derived.Test.YtdkanehjahpehaaGreatDoorJShaU
import Derived.Test.YtdkanehjahpehaaGreatDoorJCat
import Derived.Test.YtdkanehjahpehaaGreatDoorJEye
import Derived.Test.YtdkanehjahpehaaGreatDoorJTxtO
import Derived.Deep.CutRange

section
section
namespace Go.Proofs.YtdkanehjahpehaaGreatDoor
open Go.RowKit

theorem or_comm32 (a b : Int) : bits .or .u32 a b = bits .or .u32 b a := by
  simp only [bits, BitVec.or_comm]
theorem not_32 {e : Int} (h : 0 ≤ e ∧ e ≤ 4294967295) : bits .xor .u32 IntKind.u32.max e = 4294967295 - e := by
  obtain ⟨n, rfl⟩ := Int.eq_ofNat_of_zero_le h.1
  have hm : IntKind.u32.max = ((4294967295 : Nat) : Int) := by decide
  have key : ((BitVec.ofNat 32 4294967295) ^^^ (BitVec.ofNat 32 n)).toNat = 4294967295 - n := by
    have e1 : BitVec.ofNat 32 4294967295 = BitVec.allOnes 32 := by decide
    rw [e1, BitVec.allOnes_xor, BitVec.toNat_not, BitVec.toNat_ofNat, Nat.mod_eq_of_lt (by omega)]
  have e3 : bits .xor .u32 ((4294967295 : Nat) : Int) ((n : Nat) : Int) = IntKind.u32.wrap (((BitVec.ofNat 32 4294967295) ^^^ (BitVec.ofNat 32 n)).toNat : Int) := by
    simp only [bits, BitVec.ofInt_natCast]
    rfl
  rw [hm, e3, key, IntKind.wrap_u32]
  omega

/-- Words are words. -/
def W32 (l : List Int) : Prop := ∀ x ∈ l, 0 ≤ x ∧ x ≤ 4294967295
theorem W32.getD {l : List Int} (h : W32 l) (i : Nat) : 0 ≤ l.getD i 0 ∧ l.getD i 0 ≤ 4294967295 := by
  by_cases hi : i < l.length
  · have e : l.getD i 0 = l[i] := by simp [List.getD, hi]
    rw [e]
    exact h _ (List.getElem_mem hi)
  · have e : l.getD i 0 = 0 := by simp [List.getD, hi]
    rw [e]
    omega
theorem roundP_w {v : List Int} (h : W32 v) (k w : Int) : W32 (roundP v k w) := by
  intro x hx
  have h' := fun i => h.getD i
  simp only [roundP, List.mem_cons, List.mem_nil_iff, or_false] at hx
  rcases hx with rfl | rfl | rfl | rfl | rfl | rfl | rfl | rfl
  · omega
  · exact h' 0
  · exact h' 1
  · exact h' 2
  · omega
  · exact h' 4
  · exact h' 5
  · exact h' 6
theorem roundsP_w {h m : List Int} (hh : W32 h) : ∀ k, W32 (roundsP h m k)
  | 0 => by rw [roundsP_zero]; exact hh
  | k + 1 => by rw [roundsP_succ]; exact roundP_w (roundsP_w hh k) _ _
theorem stepP_w (h m : List Int) : W32 (stepP h m) := by
  intro x hx
  obtain ⟨i, _, rfl⟩ := List.mem_map.1 hx
  omega
theorem H0_w : W32 H0 := by
  intro x hx
  simp only [H0, List.mem_cons, List.mem_nil_iff, or_false] at hx
  rcases hx with rfl | rfl | rfl | rfl | rfl | rfl | rfl | rfl <;> omega
theorem hashP_w (m : List Int) : ∀ k, W32 (hashP m k)
  | 0 => by rw [hashP_zero]; exact H0_w
  | k + 1 => by rw [hashP_succ]; exact stepP_w _ _

/-- The document's word turned. -/
def rotQ (x : Int) (n : Nat) : Int := bits .or .u32 (x / 2 ^ n) (IntKind.u32.wrap (x * 2 ^ (32 - n)))
theorem rotQ_eq (x : Int) (n : Nat) : rotQ x n = rotP x n := or_comm32 _ _

/-- A round as the document has it. -/
theorem roundQ {a0 a1 a2 a3 a4 a5 a6 a7 k w : Int} (h4 : 0 ≤ a4 ∧ a4 ≤ 4294967295) :
    [IntKind.u32.wrap (IntKind.u32.wrap (IntKind.u32.wrap (IntKind.u32.wrap (IntKind.u32.wrap (a7 + x3P (rotQ a4 6) (rotQ a4 11) (rotQ a4 25)) + bits .xor .u32 (bits .and .u32 a4 a5) (bits .and .u32 (IntKind.u32.wrap (4294967295 - a4)) a6)) + k) + w) + IntKind.u32.wrap (x3P (rotQ a0 2) (rotQ a0 13) (rotQ a0 22) + x3P (bits .and .u32 a0 a1) (bits .and .u32 a0 a2) (bits .and .u32 a1 a2))),
      a0, a1, a2, IntKind.u32.wrap (a3 + IntKind.u32.wrap (IntKind.u32.wrap (IntKind.u32.wrap (IntKind.u32.wrap (a7 + x3P (rotQ a4 6) (rotQ a4 11) (rotQ a4 25)) + bits .xor .u32 (bits .and .u32 a4 a5) (bits .and .u32 (IntKind.u32.wrap (4294967295 - a4)) a6)) + k) + w)), a4, a5, a6] = roundP [a0, a1, a2, a3, a4, a5, a6, a7] k w := by
  have e1 : IntKind.u32.wrap (4294967295 - a4) = bits .xor .u32 IntKind.u32.max a4 := by rw [not_32 h4, IntKind.wrap_u32]; omega
  rw [e1]
  unfold roundP tP uP
  simp only [rotQ_eq, List.getD_cons_zero, List.getD_cons_succ, IntKind.wrap_u32]
  generalize x3P (rotP a4 6) (rotP a4 11) (rotP a4 25) = s
  generalize bits .xor .u32 (bits .and .u32 a4 a5) (bits .and .u32 (bits .xor .u32 IntKind.u32.max a4) a6) = c
  generalize x3P (rotP a0 2) (rotP a0 13) (rotP a0 22) = t
  generalize x3P (bits .and .u32 a0 a1) (bits .and .u32 a0 a2) (bits .and .u32 a1 a2) = u
  congr 1
  · omega
  · congr 4
    omega

theorem mixP_set (h R : List Int) (j : Nat) : (mixP h R j).set j ((h.getD j 0 + R.getD j 0) % 4294967296) = mixP h R (j + 1) := by
  apply List.ext_getElem
  · simp [mixP_len]
  · intro i h1 h2
    simp only [List.getElem_set, mixP, List.getElem_map, List.getElem_range]
    by_cases e : j = i
    · subst e; simp
    · rw [if_neg e]
      by_cases hlt : i < j
      · rw [if_pos hlt, if_pos (by omega)]
      · rw [if_neg hlt, if_neg (by omega)]
theorem mixP_at (h R : List Int) {j : Nat} (hj : j < 8) : (mixP h R j).getD j 0 = h.getD j 0 := by
  simp [mixP, List.getD, hj]

/-- The bytes of words, the first j of them. -/
def outP (H : List Int) (j : Nat) : List Int := (List.range 32).map fun i => if i < j then IntKind.u8.wrap (H.getD (i / 4) 0 / 2 ^ (24 - 8 * (i % 4))) else 0
theorem outP_zero (H : List Int) : outP H 0 = List.replicate 32 0 := by
  simp only [outP, Nat.not_lt_zero, if_false]
  rfl
theorem outP_len (H : List Int) (j : Nat) : (outP H j).length = 32 := by simp [outP]
theorem outP_set (H : List Int) (j : Nat) : (outP H j).set j (IntKind.u8.wrap (H.getD (j / 4) 0 / 2 ^ (24 - 8 * (j % 4)))) = outP H (j + 1) := by
  apply List.ext_getElem
  · simp [outP_len]
  · intro i h1 h2
    simp only [List.getElem_set, outP, List.getElem_map, List.getElem_range]
    by_cases e : j = i
    · subst e; simp
    · rw [if_neg e]
      by_cases hlt : i < j
      · rw [if_pos hlt, if_pos (by omega)]
      · rw [if_neg hlt, if_neg (by omega)]
theorem outP_all {H : List Int} (h : H.length = 8) : outP H 32 = H.flatMap fun w => beN w 4 := by
  match H, h with
  | [a, b, c, d, e, f, g, i], _ => rfl
theorem shaP_eq (b : List Int) : shaP b = (hashP (padP b) ((padP b).length / 64)).flatMap fun w => beN w 4 := by unfold shaP; rfl

/-- A round as the walk shows it. -/
theorem roundQ2 {a0 a1 a2 a3 a4 a5 a6 a7 k w : Int} (h4 : 0 ≤ a4 ∧ a4 ≤ 4294967295) :
    [IntKind.u32.wrap ((a7 + bits .xor .u32 (bits .xor .u32 (rotQ a4 6) (rotQ a4 11)) (rotQ a4 25) + bits .xor .u32 (bits .and .u32 a4 a5) (bits .and .u32 ((4294967295 - a4) % 4294967296) a6) + k + w) % 4294967296 +
        (bits .xor .u32 (bits .xor .u32 (rotQ a0 2) (rotQ a0 13)) (rotQ a0 22) + bits .xor .u32 (bits .xor .u32 (bits .and .u32 a0 a1) (bits .and .u32 a0 a2)) (bits .and .u32 a1 a2)) % 4294967296),
      a0, a1, a2, IntKind.u32.wrap (a3 + (a7 + bits .xor .u32 (bits .xor .u32 (rotQ a4 6) (rotQ a4 11)) (rotQ a4 25) + bits .xor .u32 (bits .and .u32 a4 a5) (bits .and .u32 ((4294967295 - a4) % 4294967296) a6) + k + w) % 4294967296), a4, a5, a6] = roundP [a0, a1, a2, a3, a4, a5, a6, a7] k w := by
  rw [← roundQ h4]
  unfold x3P
  simp only [IntKind.wrap_u32]
  generalize bits .xor .u32 (bits .xor .u32 (rotQ a4 6) (rotQ a4 11)) (rotQ a4 25) = s
  generalize bits .xor .u32 (bits .and .u32 a4 a5) (bits .and .u32 ((4294967295 - a4) % 4294967296) a6) = c
  generalize bits .xor .u32 (bits .xor .u32 (rotQ a0 2) (rotQ a0 13)) (rotQ a0 22) = t
  generalize bits .xor .u32 (bits .xor .u32 (bits .and .u32 a0 a1) (bits .and .u32 a0 a2)) (bits .and .u32 a1 a2) = u
  congr 1
  · omega
  · congr 4
    omega

end Go.Proofs.YtdkanehjahpehaaGreatDoor
end

section
namespace Go.Proofs.YtdkanehjahpehaaGreatDoor
open Go.RowKit
set_option maxRecDepth 100000

theorem right_c (x n : Int) (hn : n = 2 ∨ n = 6 ∨ n = 7 ∨ n = 11 ∨ n = 13 ∨ n = 17 ∨ n = 18 ∨ n = 19 ∨ n = 22 ∨ n = 25) (w : World) :
    Calls Tryz.prog 144 #[.int .u32 x, .int .i64 n] w fun e w' => e = .returned (.int .u32 (rotQ x n.toNat)) ∧ ∃ k, w' = w.drewN k := by
  rcases hn with rfl | rfl | rfl | rfl | rfl | rfl | rfl | rfl | rfl | rfl
  all_goals
    go_enter Tryz.func144, Tryz.ntmps144
    go_wp2_with fail
    go_quiet (fail)
    go_wp2_with fail
    go_ret
    exact ⟨rfl, _, rfl⟩

/-! ### Slices of words of one's own -/
theorem u155 : Tryz.prog.underlying 185 = some (.slice 241) := by kernel_rfl
theorem i155 : (Tryz.prog.info? 241).map (fun i => (i.zero.map (·.cells.size), i.size, i.bytes)) = some (some 1, 1, 4) := by kernel_rfl
theorem apt155_of (xs : Array Value) (t : TypeId) : Builtin.append_ #[185, 185] t xs = APs #[185, 185] t xs := rfl
theorem apt22_of (xs : Array Value) (t : TypeId) : Builtin.append_ #[28, 28] t xs = APs #[28, 28] t xs := rfl

theorem own_nul (w : World) (e : TypeId) (base : Nat) (hb : base ≤ w.heap.size) : (w.alloc (.cells #[] e)).ownsRow base e 1 (.slice (some ⟨w.heap.size, 0, none⟩) 0 0) 0 [] :=
  ⟨by simp, .inr ⟨w.heap.size, 0, #[], rfl, hb, heap_alloc_new w _, Nat.le_refl _, by simp, by simp, by simp⟩⟩

/-- The slice v has the words l, in a row of one's own. -/
def Own32 (B : Nat) (w : World) (v : Value) (l : List Int) : Prop := w.ownsRow B 241 1 v l.length (w32s l)
section
variable {B : Nat} {w w' : World} {v : Value} {l : List Int}
theorem Own32.nil (B : Nat) (w : World) : Own32 B w (.slice none 0 0) [] := World.ownsRow_nil _ _ _ _
theorem Own32.fr {F : Nat → Prop} (h : Own32 B w v l) (hf : Fr F w w') (hn : ∀ k, v.ownBlock = some k → ¬ F k) : Own32 B w' v l := own_fr h hf hn
theorem Own32.below {n₀ : Nat} (h : Own32 B w v l) (hb : Below n₀ w w') (hn : ∀ k, v.ownBlock = some k → k < n₀) : Own32 B w' v l := h.fr (Fr.of_below hb) (fun k hk f => by have := hn k hk; omega)
theorem Own32.form (h : Own32 B w v l) : ∃ A c, v = .slice A l.length c := own_form h
theorem Own32.lt (h : Own32 B w v l) {k : Nat} (hk : v.ownBlock = some k) : B ≤ k ∧ k < w.heap.size := World.ownsRow.lt h k hk
/-- Where the words lie. -/
theorem Own32.cells (h : Own32 B w v l) (h0 : 0 < l.length) : ∃ g cap, v = .slice (some ⟨g, 0, none⟩) l.length cap ∧ B ≤ g ∧ g < w.heap.size ∧ ∀ i, i < l.length → w.cell? ⟨g, i, none⟩ = some (.int .u32 (l.getD i 0)) ∧ w.frozen? ⟨g, i, none⟩ = false := by
  obtain ⟨h1, ⟨_, h3⟩ | ⟨g, cap, cur, rfl, hg, hh, hl, hm, hs, ht⟩⟩ := h
  · omega
  · refine ⟨g, cap, rfl, hg, (Array.getElem?_eq_some_iff.1 hh).1, fun i hi => ⟨?_, frozen_of_row w g i cur _ hh⟩⟩
    rw [cell_of_row w g i cur _ (0, 0) hh]
    have e : (w32s l)[i]? = some (.int .u32 (l.getD i 0)) := by simp [w32s, List.getD, hi]
    rw [← ht, List.getElem?_take, if_pos (by omega), Array.getElem?_toList] at e
    exact e
/-- A word turned. -/
theorem Own32.put {g n cap : Nat} (h : Own32 B w (.slice (some ⟨g, 0, none⟩) n cap) l) (i : Nat) (_hi : i < l.length) (x : Int) : Own32 B (w.setCell ⟨g, i, none⟩ (.int .u32 x)) (.slice (some ⟨g, 0, none⟩) n cap) (l.set i x) := by
  refine ⟨by simp [w32s_len], ?_⟩
  rcases h.2 with ⟨h0, _⟩ | ⟨g', cap', cur, hv, hb, hh, hn, hm, hsz, ht⟩
  · cases h0
  · simp only [Value.slice.injEq, Option.some.injEq, Addr.mk.injEq, and_true] at hv
    obtain ⟨rfl, rfl, rfl⟩ := hv
    refine .inr ⟨g, cap, cur.setIfInBounds i (.int .u32 x), by simp, hb, heap_setCell_same w g i cur _ _ hh, by simpa using hn, hm, by simpa using hsz, ?_⟩
    rw [Nat.mul_one] at ht ⊢
    rw [List.length_set, Array.toList_setIfInBounds, List.take_set, ht]
    simp [w32s, List.map_set]
/-- An append of words, wherever they lie. -/
theorem app32 {ty : TypeId} (h : Own32 B w v l) {a : Addr} {m : List Int} {c : Nat} (hm : ∀ j x, m[j]? = some x → w.cell? (a.add j) = some (.int .u32 x)) (hlen : l.length + m.length ≤ 1000000000) (hB : B ≤ w.heap.size) :
    ∃ v' w', (APs #[185, 185] ty #[v, .slice (some a) m.length c]).run Tryz.prog w = .ok v' w' ∧ Own32 B w' v' (l ++ m) ∧ Fr (fun k => v.ownBlock = some k) w w' ∧ Foot w v v' := by
  obtain ⟨v', w', h1, h2, h3, h4⟩ := APs_own (P := Tryz.prog) (ty := ty) u155 i155 (by omega) h (a := a) (m := m.length) (c := c) (w32s m) (by simp [w32s_len]) (fun j u hu => by
    unfold w32s at hu
    rw [List.getElem?_map] at hu
    obtain ⟨x, hx, rfl⟩ := Option.map_eq_some_iff.1 hu
    exact hm j x hx) (w32s_one m) (by unfold maxLen; omega) (by omega) hB
  refine ⟨v', w', h1, ?_, (Fr.refl _ w).grown h3 (fun k _ e => e), ?_⟩
  · unfold Own32
    rw [show w32s (l ++ m) = w32s l ++ w32s m from by simp [w32s], List.length_append]
    exact h2
  · intro j hj
    rcases h4 with e | e
    · exact .inl (e ▸ hj)
    · right
      rw [e] at hj
      injection hj with hj
      omega
/-- One word more, which is laid in a block of its own ahead. -/
theorem app32_one {ty : TypeId} (h : Own32 B w v l) (x : Int) (hlen : l.length + 1 ≤ 1000000000) (hB : B ≤ w.heap.size) :
    ∃ v' w', (APs #[185, 185] ty #[v, .slice (some ⟨w.heap.size, 0, none⟩) 1 1]).run Tryz.prog (w.alloc (.cells #[.int .u32 x] 241)) = .ok v' w' ∧ Own32 B w' v' (l ++ [x]) ∧ Fr (fun k => v.ownBlock = some k) w w' ∧ Foot w v v' := by
  have hb : Blk (w.alloc (.cells #[.int .u32 x] 241)) w.heap.size 241 #[.int .u32 x] := Blk.new w _ _
  obtain ⟨v', w', h1, h2, h3, h4⟩ := app32 (ty := ty) (m := [x]) (c := 1) (a := ⟨w.heap.size, 0, none⟩) (w := w.alloc (.cells #[.int .u32 x] 241)) (World.ownsRow.alloc h _) (fun j y hy => by
    have hadd : (⟨w.heap.size, 0, none⟩ : Addr).add j = ⟨w.heap.size, j, none⟩ := by unfold Addr.add; split <;> simp_all
    rw [hadd, hb.cell j]
    have hj : j < [x].length := (List.getElem?_eq_some_iff.1 hy).1
    obtain rfl : j = 0 := by simpa using hj
    simp at hy
    subst hy
    rfl) (by simpa using hlen) (by simp; omega)
  refine ⟨v', w', h1, h2, ((Fr.refl _ w).alloc _).trans h3 (fun k _ e => e), ?_⟩
  intro j hj
  rcases h4 j hj with e | e
  · exact .inl e
  · right; simp at e; omega
/-- The same behind a draw. -/
theorem app32_oneD {ty : TypeId} (h : Own32 B w v l) (x : Int) (hlen : l.length + 1 ≤ 1000000000) (hB : B ≤ w.heap.size) (k : Nat) :
    ∃ v' w', (APs #[185, 185] ty #[v, .slice (some ⟨w.heap.size, 0, none⟩) 1 1]).run Tryz.prog ((w.alloc (.cells #[.int .u32 x] 241)).drewN k) = .ok v' w' ∧ Own32 B w' v' (l ++ [x]) ∧ Fr (fun k => v.ownBlock = some k) w w' ∧ Foot w v v' := by
  have hb : Blk (w.alloc (.cells #[.int .u32 x] 241)) w.heap.size 241 #[.int .u32 x] := Blk.new w _ _
  have h0 : Own32 B ((w.alloc (.cells #[.int .u32 x] 241)).drewN k) v l := World.ownsRow.alloc h _
  obtain ⟨v', w', h1, h2, h3, h4⟩ := app32 (ty := ty) (m := [x]) (c := 1) (a := ⟨w.heap.size, 0, none⟩) h0 (fun j y hy => by
    have hadd : (⟨w.heap.size, 0, none⟩ : Addr).add j = ⟨w.heap.size, j, none⟩ := by unfold Addr.add; split <;> simp_all
    rw [hadd, (hb.drewN k).cell j]
    have hj : j < [x].length := (List.getElem?_eq_some_iff.1 hy).1
    obtain rfl : j = 0 := by simpa using hj
    simp at hy
    subst hy
    rfl) (by simpa using hlen) (by simp [World.drewN]; omega)
  refine ⟨v', w', h1, h2, (((Fr.refl _ w).alloc _).drewN k).trans h3 (fun k _ e => e), ?_⟩
  intro j hj
  rcases h4 j hj with e | e
  · exact .inl e
  · right; simp [World.drewN] at e; omega
/-- A copy of words: append([]uint32{}, h...). -/
theorem copy32 {ty : TypeId} (w : World) {a : Addr} {m : List Int} {c : Nat} (hm : ∀ j x, m[j]? = some x → w.cell? (a.add j) = some (.int .u32 x)) (ha : 0 < m.length → a.block < w.heap.size) (hlen : m.length ≤ 1000000000) :
    ∃ v' w', (APs #[185, 185] ty #[.slice (some ⟨w.heap.size, 0, none⟩) 0 0, .slice (some a) m.length c]).run Tryz.prog (w.alloc (.cells #[] 241)) = .ok v' w' ∧ Own32 w.heap.size w' v' m ∧ Below w.heap.size w w' := by
  have h0 : Own32 w.heap.size (w.alloc (.cells #[] 241)) (.slice (some ⟨w.heap.size, 0, none⟩) 0 0) [] := own_nul w _ _ (Nat.le_refl _)
  obtain ⟨v', w', h1, h2, h3, h4⟩ := app32 (ty := ty) (a := a) (m := m) (c := c) h0 (fun j x hx => by
    have hj : j < m.length := (List.getElem?_eq_some_iff.1 hx).1
    have hab : (a.add j).block = a.block := by unfold Addr.add; split <;> rfl
    have := hm j x hx
    rw [← this]
    exact ((Below.refl _ w).alloc (Nat.le_refl _) _).cell (by rw [hab]; exact ha (by omega))) (by simpa using hlen) (by simp)
  refine ⟨v', w', h1, by simpa using h2, ?_⟩
  exact ((Below.refl _ w).alloc (Nat.le_refl _) _).trans (h3.below (by simp) (fun k hk e => by
    simp [Value.ownBlock] at e
    omega))
/-- Words laid in a block of their own. -/
theorem own32_lit (w : World) (l : List Int) (hB : B ≤ w.heap.size) (hl : l.length ≤ 1000000000) : Own32 B (w.alloc (.cells (w32s l).toArray 241)) (.slice (some ⟨w.heap.size, 0, none⟩) l.length l.length) l :=
  ⟨by simp [w32s_len], .inr ⟨w.heap.size, l.length, (w32s l).toArray, rfl, hB, heap_alloc_new w _, Nat.le_refl _, by unfold maxLen; omega, by simp [w32s_len], by simp [w32s_len, List.take_of_length_le]⟩⟩
end

end Go.Proofs.YtdkanehjahpehaaGreatDoor
end

section
namespace Go.Proofs.YtdkanehjahpehaaGreatDoor
open Go.RowKit

theorem beN_snoc (v : Int) (k : Nat) : beN v (k + 1) = beN (v / 256) k ++ [IntKind.u8.wrap v] := by
  apply List.ext_getElem
  · simp [beN]
  · intro i h1 h2
    simp only [beN_len] at h1
    simp only [beN, List.getElem_map, List.getElem_range, List.getElem_append, List.length_map, List.length_range]
    by_cases hi : i < k
    · rw [dif_pos hi]
      congr 1
      rw [Int.ediv_ediv_of_nonneg (by decide), show (256 : Int) = 2 ^ 8 from rfl, ← Int.pow_add]
      congr 2
      omega
    · obtain rfl : i = k := by omega
      rw [dif_neg hi]
      simp
theorem beN_be (n : Nat) : beN (n : Int) (leP n).length = beP n := by
  induction n using Nat.strongRecOn with
  | ind n ih =>
    by_cases h : n = 0
    · subst h; simp [beP, leP_zero, beN]
    · have e : beP n = beP (n / 256) ++ [((n % 256 : Nat) : Int)] := by unfold beP; rw [leP_pos (by omega)]; simp
      rw [e, leP_pos (by omega), List.length_cons, beN_snoc, ← ih (n / 256) (by omega), IntKind.wrap_u8']
      congr 2
theorem leP_div (n : Nat) : (leP n).length = if n = 0 then 0 else (leP (n / 256)).length + 1 := by
  by_cases h : n = 0
  · subst h; simp [leP_zero]
  · rw [leP_pos (by omega)]; simp [h]

theorem readP_short {b : List Int} (h : b.length < 12) : readP b = none := by unfold readP; rw [if_pos h]
theorem readP_out {b : List Int} (h : 1024 < secP (12 + word4P b) ∨ b.length < secP (12 + word4P b) * 64) : readP b = none := by
  unfold readP
  split
  · rfl
  · first | rfl | rw [if_pos h]
theorem readP_bad {b : List Int} (h : (b.drop 4).take 8 ≠ sumP ((b.drop 12).take (word4P b)) ∨ ((b.drop (12 + word4P b)).take (secP (12 + word4P b) * 64 - (12 + word4P b))).any (· != 0) = true) : readP b = none := by
  unfold readP
  split
  · rfl
  split
  · rfl
  · first | rfl | rw [if_pos h]
theorem readP_eye {b : List Int} (h0 : 12 ≤ b.length) (h1 : secP (12 + word4P b) ≤ 1024) (h2 : secP (12 + word4P b) * 64 ≤ b.length) (h3 : (b.drop 4).take 8 = sumP ((b.drop 12).take (word4P b)))
    (h4 : ((b.drop (12 + word4P b)).take (secP (12 + word4P b) * 64 - (12 + word4P b))).any (· != 0) = false) :
    readP b = match eyeP ((b.drop 12).take (word4P b)) (word4P b) with | none => none | some (t, n, x) => some ⟨t, n, secP (12 + word4P b), x⟩ := by
  unfold readP
  rw [if_neg (by omega), if_neg (by omega), if_neg (fun h => h.elim (fun h => h h3) (fun h => by rw [h4] at h; cases h))]
  cases eyeP ((b.drop 12).take (word4P b)) (word4P b) <;> rfl
/-- A byte behind the fields that is none. -/
theorem any_at {b : List Int} {o n i : Nat} (h0 : o ≤ i) (h1 : i < o + n) (h2 : b.getD i 0 ≠ 0) : ((b.drop o).take n).any (· != 0) = true := by
  have hlt : i < b.length := by
    rcases Nat.lt_or_ge i b.length with h | h
    · exact h
    · exact absurd (by simp [List.getD, h]) h2
  have e : ((b.drop o).take n)[i - o]? = some (b.getD i 0) := by
    rw [List.getElem?_take, if_pos (by omega), List.getElem?_drop, show o + (i - o) = i by omega]
    simp [List.getD, hlt]
  rw [List.any_eq_true]
  exact ⟨_, List.mem_of_getElem? e, by simpa using h2⟩
theorem any_none {b : List Int} {o n : Nat} (h : ∀ i, o ≤ i → i < o + n → b.getD i 0 = 0) : ((b.drop o).take n).any (· != 0) = false := by
  rw [List.any_eq_false]
  intro x hx
  obtain ⟨j, hj⟩ := List.mem_iff_getElem?.1 hx
  rw [List.getElem?_take] at hj
  split at hj
  · rename_i hjn
    rw [List.getElem?_drop] at hj
    have := h (o + j) (by omega) (by omega)
    simp only [List.getD, hj, Option.getD_some] at this
    simp [this]
  · cases hj
theorem padP_bd {b : List Int} (hb : ∀ x ∈ b, 0 ≤ x ∧ x ≤ 255) : ∀ x ∈ padP b, 0 ≤ x ∧ x ≤ 255 := by
  intro x hx
  simp only [padP, List.mem_append, List.mem_cons] at hx
  rcases hx with hx | rfl | hx | hx
  · exact hb x hx
  · omega
  · rw [List.eq_of_mem_replicate hx]; omega
  · exact beN_bd _ _ x hx
/-- Two rows of eight bytes. -/
theorem eight_eq {a c : List Int} (ha : a.length = 8) (hc : c.length = 8) (h : ∀ i, i < 8 → a.getD i 0 = c.getD i 0) : a = c := by
  apply List.ext_getElem (by omega)
  intro i h1 h2
  have := h i (by omega)
  simpa [List.getD, h1, h2] using this

end Go.Proofs.YtdkanehjahpehaaGreatDoor
end

section
namespace Go.Proofs.YtdkanehjahpehaaGreatDoor
open Go.RowKit
set_option maxRecDepth 100000

/-- Bytes laid in a block of their own. -/
theorem own8_lit {B : Nat} (w : World) (l : List Int) (hB : B ≤ w.heap.size) (hl : l.length ≤ 1000000000) : Own8 B (w.alloc (.cells (bys l).toArray 5)) (.slice (some ⟨w.heap.size, 0, none⟩) l.length l.length) l :=
  ⟨by simp [bys_length], .inr ⟨w.heap.size, l.length, (bys l).toArray, rfl, hB, heap_alloc_new w _, Nat.le_refl _, by unfold maxLen; omega, by simp [bys_length], by simp [bys_length, List.take_of_length_le]⟩⟩

section
attribute [local go_sem ↓] apt22_of

set_option maxHeartbeats 4000000 in
theorem rnum_any (n : Nat) (hn : n < 18446744073709551616) (w : World) :
    Calls Tryz.prog 98 #[.int .u64 (n : Int)] w fun e w' => ∃ v, e = .returned v ∧ Own8 w.heap.size w' v (numP n) ∧ Below w.heap.size w w' := by
  obtain ⟨K, hK⟩ : ∃ K, (leP n).length = K := ⟨_, rfl⟩
  have hK8 : K ≤ 8 := hK ▸ leP_len8 hn
  have HK := Lib.hid hK
  clear hK
  go_enter Tryz.func98, Tryz.ntmps98
  go_wp2_with fail
  go_loop [3, 4] (fun k v => ∃ (m j : Nat), k = .int .i64 (j : Int) ∧ v = .int .u64 (m : Int) ∧ m ≤ n ∧ (leP m).length + j = K) (fun _ v => (intOf v).toNat)
  case atStart => exact ⟨n, 0, rfl, rfl, Nat.le_refl _, HK.out⟩
  case round =>
    obtain ⟨m, j, rfl, rfl, hm, hj⟩ := hrel
    by_cases h0 : 0 < m
    · have hpos : (0 : Int) < (m : Int) := by omega
      rw [leP_pos h0, List.length_cons] at hj
      have HJ := Lib.hid hj
      have hj8 : j ≤ 8 := by omega
      clear hj
      go_wp2_with fail
      go_round
      case rel => exact ⟨m / 256, j + 1, by go_num, by go_num, by omega, by have := HJ.out; omega⟩
      case measure => simp [intOf]; omega
    · obtain rfl : m = 0 := by omega
      have hjK : K = j := by rw [leP_zero] at hj; simpa using hj.symm
      subst hjK
      have hW := own8_lit (B := w.heap.size) w [(K : Int)] (Nat.le_refl _) (by simp)
      have hB0 : Below w.heap.size w (w.alloc (.cells (bys [(K : Int)]).toArray 5)) := (Below.refl _ w).alloc (Nat.le_refl _) _
      have HW := Lib.hid hW
      have HB0 := Lib.hid hB0
      clear hW hB0 hj
      go_wp2_with fail
      go_loopg [5, 6] K (fun k v t wr => ∃ (i : Nat) (A : Option Addr) (c : Nat), i + k = K ∧ ((i < K ∧ t = .int .i64 ((K - 1 - i : Nat) : Int)) ∨ (i = K ∧ t = .int .i64 (-1))) ∧ v = .slice A (1 + i) c ∧ Own8 w.heap.size wr v ((K : Int) :: (beN (n : Int) K).take i) ∧ Below w.heap.size w wr)
      case atStart =>
        refine ⟨0, _, _, by omega, ?_, rfl, HW.out, HB0.out⟩
        rcases Nat.eq_zero_or_pos K with h | h
        · exact .inr ⟨h.symm, by go_num⟩
        · exact .inl ⟨h, by go_num⟩
      case round =>
        clear HW HB0
        obtain ⟨i, A, c, hi, ht, rfl, ho, hbl⟩ := hrel
        have hlj : ((K : Int) :: (beN (n : Int) K).take i).length = 1 + i := by rw [List.length_cons, List.length_take, beN_len]; omega
        have HBl := Lib.hid hbl
        rcases ht with ⟨hiK, rfl⟩ | ⟨rfl, rfl⟩
        · have hxe : (beN (n : Int) K).getD i 0 = (n : Int) / 2 ^ (8 * (K - 1 - i)) % 256 := by
            rw [beN_get _ hiK, IntKind.wrap_u8']
          have hxt : (beN (n : Int) K).take (i + 1) = (beN (n : Int) K).take i ++ [(n : Int) / 2 ^ (8 * (K - 1 - i)) % 256] := by
            rw [List.take_succ_eq_append_getElem (by rw [beN_len]; exact hiK), ← hxe]
            simp [List.getD, beN_len, hiK]
          obtain ⟨v', w', hap, ho', hf', _⟩ := app8_one (ty := 28) (x := (n : Int) / 2 ^ (8 * (K - 1 - i)) % 256) ho (by omega) (by rw [hlj]; omega) hbl.size
          obtain ⟨A6, c6, rfl⟩ := ho'.form
          rw [List.length_append, hlj] at hap ho'
          rw [List.cons_append, ← hxt] at ho'
          have HO2 := Lib.hid ho
          have HO' := Lib.hid ho'
          have HF' := Lib.hid hf'
          clear ho ho' hf' hlj hbl hxe hxt
          go_wp2_with fail
          go_roundg (K - (i + 1))
          case measure => omega
          case rel =>
            refine ⟨i + 1, _, _, by omega, ?_, rfl, HO'.out, HBl.out.trans (HF'.out.below HBl.out.size (fun k hk e => by have := (HO2.out.lt e).1; omega))⟩
            by_cases h7 : i + 1 = K
            · exact .inr ⟨h7, by go_num⟩
            · exact .inl ⟨by omega, by go_num⟩
        · have hnum : (i : Int) :: beN (n : Int) i = numP n := by
            have h1 := beN_be n
            rw [HK.out] at h1
            rw [h1, numP, HK.out]
          rw [List.take_of_length_le (by rw [beN_len]; exact Nat.le_refl _), hnum] at ho
          have HO := Lib.hid ho
          clear ho hlj hbl hnum
          go_wp2_with fail
          go_ret
          exact ⟨_, rfl, HO.out, HBl.out⟩

theorem be4_cells (m : Nat) : (bys (be4P m)).toArray = #[.int .u8 ((m : Int) / 16777216 % 256), .int .u8 ((m : Int) / 65536 % 256), .int .u8 ((m : Int) / 256 % 256), .int .u8 ((m : Int) % 256)] := by
  simp [be4P, bys]

set_option maxHeartbeats 2000000 in
theorem rlong_any (A : Option Addr) (c : Nat) (hcA : A = none → c = 0) (b : List Int) (w : World) (hb : Byt w A b) (hl : b.length ≤ 500000000) :
    Calls Tryz.prog 52 #[.slice A b.length c] w fun e w' => ∃ v, e = .returned v ∧ Own8 w.heap.size w' v (be4P b.length ++ b) ∧ Below w.heap.size w w' := by
  obtain ⟨m, hm⟩ : ∃ m, b.length = m := ⟨_, rfl⟩
  have h0 := own8_lit (B := w.heap.size) w (be4P m) (Nat.le_refl _) (by simp [be4P_len])
  have hB0 : Below w.heap.size w (w.alloc (.cells (bys (be4P m)).toArray 5)) := (Below.refl _ w).alloc (Nat.le_refl _) _
  obtain ⟨v2, w2, hap, ho2, hf2, _⟩ := app8 (ty := 28) (c := c) h0 (hb.below hB0) (by rw [be4P_len]; omega) (by simp) hcA
  have hB2 : Below w.heap.size w w2 := hB0.trans (hf2.below (by simp) (fun k hk e => by have := (h0.lt e).1; omega))
  rw [hm, be4P_len, be4_cells] at hap
  rw [hm]
  have HO := Lib.hid ho2
  have HB := Lib.hid hB2
  clear hb hm h0 hB0 ho2 hf2 hB2
  go_enter Tryz.func52, Tryz.ntmps52
  go_wp2_with fail
  go_ret
  exact ⟨_, rfl, HO.out, HB.out⟩
end

end Go.Proofs.YtdkanehjahpehaaGreatDoor
end
end

section
namespace Go.Proofs.YtdkanehjahpehaaGreatDoor
open Go.RowKit
set_option maxRecDepth 100000

/-! ### Fields, and what was read, as values -/
def fldL (k n : Int) (b : Value) : List Value := [.int .i64 k, .int .u64 n, b] ++ List.replicate 32 (.int .u8 0)
def gotL (k n : Int) (b : Value) (e : Int) (left : Value) : List Value := fldL k n b ++ [.int .i64 e, left]
theorem fldL_len (k n : Int) (b : Value) : (fldL k n b).length = 35 := by simp [fldL]
theorem gotL_len (k n : Int) (b : Value) (e : Int) (left : Value) : (gotL k n b e left).length = 37 := by simp [gotL, fldL]
theorem ld127 (v : Value) : Instr.loadAt 211 v = LDs 211 v := rfl
theorem st127 (v x : Value) : Instr.storeAt 211 v x = STs 211 v x := rfl
theorem al127 : Instr.alloc 211 true (.tuple #[]) = ALs 211 := rfl
theorem bd127 (parts : Array (Nat × Value)) : Instr.build 211 parts = BDs 211 parts := rfl
theorem bd125 (parts : Array (Nat × Value)) : Instr.build 156 parts = BDs 156 parts := rfl
theorem bd125_1 (n : Int) (W : World) : (BDs 156 #[(1, .int .u64 n)]).run Tryz.prog W = .ok (.agg (fldL 0 n (.slice none 0 0)).toArray) W := by kernel_rfl
theorem bd125_01 (k n : Int) (W : World) : (BDs 156 #[(0, .int .i64 k), (1, .int .u64 n)]).run Tryz.prog W = .ok (.agg (fldL k n (.slice none 0 0)).toArray) W := by kernel_rfl
theorem bd125_02 (k : Int) (A : Option Addr) (n c : Nat) (W : World) : (BDs 156 #[(0, .int .i64 k), (2, .slice A n c)]).run Tryz.prog W = .ok (.agg (fldL k 0 (.slice A n c)).toArray) W := by kernel_rfl
theorem bd127_1 (e : Int) (W : World) : (BDs 211 #[(1, .int .i64 e)]).run Tryz.prog W = .ok (.agg (gotL 0 0 (.slice none 0 0) e (.slice none 0 0)).toArray) W := by kernel_rfl
theorem bd127_02 (k m : Int) (B : Option Addr) (j d : Nat) (A : Option Addr) (n c : Nat) (W : World) : (BDs 211 #[(0, .agg (fldL k m (.slice B j d)).toArray), (2, .slice A n c)]).run Tryz.prog W = .ok (.agg (gotL k m (.slice B j d) 0 (.slice A n c)).toArray) W := by kernel_rfl
theorem i127 : (Tryz.prog.info? 211).map (·.size) = some 37 := by kernel_rfl
theorem z127 : (((Tryz.prog.info? 211).bind (·.zero)).map (·.cells.size)) = some 37 := by kernel_rfl
theorem u127 : (Tryz.prog.underlying 211).map isAggD = some true := by kernel_rfl
theorem gotL_one (k n : Int) (B : Option Addr) (j d : Nat) (e : Int) (A : Option Addr) (m c : Nat) : ∀ v ∈ gotL k n (.slice B j d) e (.slice A m c), v.oneCell' = true := by
  intro v hv
  simp only [gotL, fldL, List.mem_append, List.mem_cons, List.mem_replicate, List.mem_nil_iff, or_false] at hv
  rcases hv with (((rfl | rfl | rfl) | ⟨_, rfl⟩) | rfl | rfl) <;> rfl

/-- A part of a slice, by numbers of whatever kind. -/
theorem part8u {w : World} {A : Option Addr} {L : List Int} (hb : Byt w A L) (c l h : Nat) (vl vh : Option Value) (hl : l ≤ h) (hh : h ≤ L.length) (hc : L.length ≤ c)
    (el : (vl = none ∧ l = 0) ∨ ∃ k x, vl = some (.int k x) ∧ x = l) (eh : (vh = none ∧ h = L.length) ∨ ∃ k x, vh = some (.int k x) ∧ x = h) :
    ∃ A', (∀ W : World, (SLs 28 (.slice A L.length c) vl vh none).run Tryz.prog W = .ok (.slice A' (h - l) (c - l)) W) ∧ Byt w A' ((L.drop l).take (h - l)) ∧ (∀ a, A' = some a → ∃ b, A = some b ∧ a.block = b.block) ∧ (A' = none → A = none) := by
  obtain ⟨i, hq, hi⟩ := Option.map_eq_some_iff.1 i5
  refine ⟨if c = l then A else A.map (·.add l), fun W => ?_, ⟨fun h0 => ?_, fun x hx => hb.bd x (List.mem_of_mem_drop (List.mem_of_mem_take hx))⟩, ?_, ?_⟩
  · have hm : h ≤ c := by omega
    have e1 : ¬ ((h : Int) < 0 ∨ (L.length : Int) < (h : Int)) := by omega
    have b1 : ((0 : Int) ≤ (h : Int) ∧ (h : Int) ≤ (c : Int)) := by omega
    have b2 : ((0 : Int) ≤ (l : Int) ∧ (l : Int) ≤ (h : Int)) := by omega
    rcases el with ⟨rfl, rfl⟩ | ⟨k, x, rfl, rfl⟩ <;> rcases eh with ⟨rfl, rfl⟩ | ⟨k', y, rfl, rfl⟩ <;>
      (simp [SLs, Instr.sliceAt, Instr.slice, Instr.sliceBounds, Instr.sliceBound, asIntOf, run_underlying u22, sizeOf, typeInfo, hq, hi, hl, hm])
  · have hlen : 0 < ((L.drop l).take (h - l)).length := h0
    simp only [List.length_take, List.length_drop] at hlen
    obtain ⟨g, o, rfl, hg, hc'⟩ := hb.cell (by omega)
    have hadd : (⟨g, o, none⟩ : Addr).add l = ⟨g, o + l, none⟩ := by unfold Addr.add; split <;> simp_all
    refine ⟨g, o + l, ?_, hg, fun j x hx => ?_⟩
    · rw [if_neg (by omega)]
      simp [hadd]
    · rw [List.getElem?_take] at hx
      split at hx
      · rw [List.getElem?_drop] at hx
        rw [Nat.add_assoc]
        exact hc' _ x hx
      · cases hx
  · intro a e
    split at e
    · exact ⟨a, e, rfl⟩
    · obtain ⟨b, hb1, rfl⟩ := Option.map_eq_some_iff.1 e
      exact ⟨b, hb1, by unfold Addr.add; split <;> simp_all⟩
  · intro e
    split at e
    · exact e
    · simpa using e

/-- What is behind the taking of a field. -/
def TakeErr (e : Ending) : Prop := ∃ x : Int, (x != 0) = true ∧ (x == 0) = false ∧ e = .returned (.agg (gotL 0 0 (.slice none 0 0) x (.slice none 0 0)).toArray)
/-- A part of the slice A, c. -/
structure Part8 (w : World) (A : Option Addr) (A' : Option Addr) (c' : Nat) (l : List Int) : Prop where
  byt : Byt w A' l
  blk : ∀ a, A' = some a → ∃ b, A = some b ∧ a.block = b.block
  cap : l.length ≤ c'
  nul : A' = none → c' = 0
def TakeNum (w : World) (A : Option Addr) (v : Nat) (r : List Int) (e : Ending) : Prop :=
  ∃ A' c', e = .returned (.agg (gotL 0 v (.slice none 0 0) 0 (.slice A' r.length c')).toArray) ∧ Part8 w A A' c' r
def TakeText (w : World) (A : Option Addr) (t r : List Int) (e : Ending) : Prop :=
  ∃ B d A' c', e = .returned (.agg (gotL 1 0 (.slice B t.length d) 0 (.slice A' r.length c')).toArray) ∧ Part8 w A B d t ∧ Part8 w A A' c' r
def TakePost (w : World) (A : Option Addr) (kd : Int) (R : Option (Nat × List Int)) (e : Ending) : Prop :=
  match R with
  | none => TakeErr e
  | some (v, r) => if kd = 0 then TakeNum w A v r e else if r.length < v then TakeErr e else TakeText w A (r.take v) (r.drop v) e

section
attribute [local go_sem ↓] ld127 st127 al127 bd127 bd125 sle_of
attribute [local go_sem] bd127_1 bd127_02 bd125_1 bd125_01 bd125_02

set_option maxHeartbeats 8000000 in
theorem take_any (kd : Int) (hkd : kd = 0 ∨ kd = 1) (A : Option Addr) (c : Nat) (hcA : A = none → c = 0) (l : List Int) (most : Nat) (_hm : most ≤ 18446744073709551615) (w : World) (hb : Byt w A l) (hl : l.length ≤ 1000000000) (hc : l.length ≤ c) :
    Calls Tryz.prog 116 #[.slice A l.length c, .agg (fldL kd most (.slice none 0 0)).toArray] w fun e w' => TakePost w' A kd (takeNumP most l) e ∧ Below w.heap.size w w' := by
  obtain ⟨z, hz1, hz2⟩ := Option.map_eq_some_iff.1 z127
  obtain ⟨F, hF⟩ : ∃ F, (fldL kd most (.slice none 0 0)).toArray = F := ⟨_, rfl⟩
  have hal := ALs_new (P := Tryz.prog) (t := 211) z hz1 (w.alloc (.cells F 156))
  obtain ⟨Z, hZ⟩ : ∃ Z, z.cells = Z := ⟨_, rfl⟩
  rw [hZ] at hal hz2
  have HZ2 := Lib.hid hz2
  have HB0 := Lib.hid hb
  have hbF := (Blk.new w 156 F).alloc (.cells Z 211)
  have hbG := Blk.new (w.alloc (.cells F 156)) 211 Z
  have hB : Below w.heap.size w ((w.alloc (.cells F 156)).alloc (.cells Z 211)) := ((Below.refl _ w).alloc (Nat.le_refl _) _).alloc (by simp) _
  have hY := hb.below hB
  have c0 := hbF.cell 0
  have c1 := hbF.cell 1
  have g0 : F[0]? = some (.int .i64 kd) := by rw [← hF]; rfl
  have g1 : F[1]? = some (.int .u64 most) := by rw [← hF]; rfl
  rw [g0] at c0
  rw [g1] at c1
  rw [hF]
  obtain ⟨W, hW⟩ : ∃ W, (w.alloc (.cells F 156)).alloc (.cells Z 211) = W := ⟨_, rfl⟩
  rw [hW] at hbF hbG hB hY c0 c1
  simp only [World.size_alloc] at hbG hal
  have HST := Lib.hid (fun e => STs_blk (P := Tryz.prog) (t := 211) i127 hbG (off := 0) (gotL 0 0 (.slice none 0 0) e (.slice none 0 0)) (gotL_len _ _ _ _ _) (by omega) (gotL_one _ _ _ _ _ _ _ _ _))
  have hend : ∀ (X : World), Blk X (w.heap.size + 1) 211 Z → ∀ (G : List Value) (tm : Array Value), G.length = 37 → tm.getD 4 undef = .pointer (some ⟨w.heap.size + 1, 0, none⟩) → (results Tryz.f116 tm).run Tryz.prog (X.setRow (w.heap.size + 1) (splice Z 0 G)) = .ok (.agg G.toArray) (X.setRow (w.heap.size + 1) (splice Z 0 G)) := fun X hbX G tm hG htm => by
    have e := hbX.row_ (splice Z 0 G)
    rw [splice_whole _ _ (by omega)] at e ⊢
    obtain ⟨d, hd1, hd2⟩ := Option.map_eq_some_iff.1 u127
    exact results_arr rfl tm _ (w.heap.size + 1) 211 G d htm e hd1 hd2 (by rw [hG]; exact i127)
  have hbelow : ∀ cs, Below w.heap.size w (W.setRow (w.heap.size + 1) cs) := fun cs => Below.setRow hB (by omega) _
  obtain ⟨R, hR⟩ : ∃ R, takeNumP most l = R := ⟨_, rfl⟩
  rw [hR]
  have HEND := Lib.hid hend
  have HBW := Lib.hid hbelow
  have HB := Lib.hid hB
  have HBG := Lib.hid hbG
  have HY := Lib.hid hY
  have HW := Lib.hid hW
  have HR := Lib.hid hR
  clear hend hbelow hbG hbF hB hY hW hz1 hz2 hZ hF g0 g1 hb hR
  have hk2 : ¬ (kd = 2) := by omega
  have hk2b : (kd == 2) = false := by simp [hk2]
  cases l with
  | nil =>
    have hP : R = none := by rw [← HR.out]; rfl
    have hst := HST.out 2
    have HP := Lib.hid hP
    clear hP
    go_enter Tryz.func116, Tryz.ntmps116
    go_upto_region 1 with fail
    rw [HW.out]
    go_wp2_with fail
    exact bodyPost_ret (HEND.out _ HBG.out _ _ (gotL_len _ _ _ _ _) rfl) rfl ⟨by rw [HP.out]; exact ⟨2, rfl, rfl, rfl⟩, HBW.out _⟩
  | cons k tl =>
    have hk := HY.out.bd k (by simp)
    have htb : ∀ x ∈ tl, 0 ≤ x ∧ x ≤ 255 := fun x hx => HY.out.bd x (by simp [hx])
    obtain ⟨K, rfl⟩ : ∃ K : Nat, k = K := ⟨k.toNat, by omega⟩
    have hKb : K ≤ 255 := by omega
    have hT : takeNumP most ((K : Int) :: tl) = if 8 < K ∨ tl.length < K ∨ (0 < K ∧ tl.headD 1 = 0) ∨ most < valP (tl.take K) then none else some (valP (tl.take K), tl.drop K) := by
      simp only [takeNumP, Int.toNat_natCast]
    rw [hT] at HR
    obtain ⟨g, o, rfl, hg, hcell⟩ := HY.out.cell (by simp)
    have hgw : g < w.heap.size := by
      obtain ⟨g', o', e, hg', _⟩ := HB0.out.cell (by simp)
      cases e
      exact hg'
    clear HB0
    have k0 := hcell 0 K rfl
    rw [Nat.add_zero] at k0
    have hcell' : ∀ j x, tl[j]? = some x → W.cell? ⟨g, o + (j + 1), none⟩ = some (.int .u8 x) := fun j x hx => hcell (j + 1) x (by simpa using hx)
    obtain ⟨n, hn⟩ : ∃ n, tl.length = n := ⟨_, rfl⟩
    have hlen : ((K : Int) :: tl).length = n + 1 := by simp [hn]
    rw [hlen] at hc hl ⊢
    have HC := Lib.hid hcell'
    have HN := Lib.hid hn
    have HTB := Lib.hid htb
    have HL := Lib.hid hlen
    have HKD := Lib.hid hkd
    clear hT hk hcell hcell' htb hn hlen hkd
    go_enter Tryz.func116, Tryz.ntmps116
    go_upto_region 1 with fail
    rw [HW.out]
    by_cases h8 : 8 < K
    · have h8I : (8 : Int) < (K : Int) := by omega
      have hP : R = none := HR.out.symm.trans (if_pos (.inl h8))
      have hst := HST.out 3
      have HP := Lib.hid hP
      clear hP
      go_wp2_with fail
      exact bodyPost_ret (HEND.out _ HBG.out _ _ (gotL_len _ _ _ _ _) rfl) rfl ⟨by rw [HP.out]; exact ⟨3, rfl, rfl, rfl⟩, HBW.out _⟩
    have h8I : (K : Int) ≤ 8 := by omega
    by_cases hfew : n < K
    · have hfI : (n : Int) + 1 < 1 + (K : Int) := by omega
      have hfI2 : n + 1 < 1 + K := by omega
      have hP : R = none := HR.out.symm.trans (if_pos (.inr (.inl (by rw [HN.out]; exact hfew))))
      have hst := HST.out 2
      have HP := Lib.hid hP
      clear hP
      go_wp2_with fail
      exact bodyPost_ret (HEND.out _ HBG.out _ _ (gotL_len _ _ _ _ _) rfl) rfl ⟨by rw [HP.out]; exact ⟨2, rfl, rfl, rfl⟩, HBW.out _⟩
    by_cases hz : 0 < K ∧ tl.headD 1 = 0
    · have hP : R = none := HR.out.symm.trans (if_pos (.inr (.inr (.inl hz))))
      obtain ⟨hz1, hz2⟩ := hz
      have k1 : W.cell? ⟨g, o + 1, none⟩ = some (.int .u8 0) := by
        cases tl with
        | nil => have := HN.out; simp at this; omega
        | cons x r =>
          simp at hz2
          subst hz2
          exact HC.out 0 0 rfl
      have hKp : (0 : Int) < (K : Int) := by omega
      have hn1 : (1 : Int) < (n : Int) + 1 := by omega
      have hst := HST.out 3
      have HP := Lib.hid hP
      clear hP hz2
      go_wp2_with fail
      exact bodyPost_ret (HEND.out _ HBG.out _ _ (gotL_len _ _ _ _ _) rfl) rfl ⟨by rw [HP.out]; exact ⟨3, rfl, rfl, rfl⟩, HBW.out _⟩
    have HZ := Lib.hid hz
    clear hz
    rcases Nat.eq_zero_or_pos K with hK0 | hKp0
    focus
      have hKp : ¬ (0 : Int) < (K : Int) := by omega
      have HK0 := Lib.hid hK0
      clear hK0
      go_wp2_with fail
      clear hKp
    rotate_left
    focus
      have hKp : (0 : Int) < (K : Int) := by omega
      have hn1 : (1 : Int) < (n : Int) + 1 := by omega
      obtain ⟨x, k1, hx⟩ : ∃ x, W.cell? ⟨g, o + 1, none⟩ = some (.int .u8 x) ∧ (x == 0) = false := by
        have hz := HZ.out
        cases tl with
        | nil => have := HN.out; simp at this; omega
        | cons x r =>
          refine ⟨x, HC.out 0 x rfl, ?_⟩
          simp at hz ⊢
          exact hz hKp0
      go_wp2_with fail
      clear hKp k1 hx hKp0
    rotate_left
    all_goals
      go_loop [8, 9] (fun v t => ∃ I : Nat, 1 ≤ I ∧ I ≤ K + 1 ∧ t = .int .i64 (I : Int) ∧ v = .int .u64 ((valP (tl.take (I - 1)) : Nat) : Int)) (fun _ t => K + 1 - (intOf t).toNat)
      case atStart => exact ⟨1, by omega, by omega, rfl, rfl⟩
      case round =>
        obtain ⟨I, hI1, hIK, rfl, rfl⟩ := hrel
        have hvb := valP_lt (tl.take (I - 1)) (fun x hx => HTB.out x (List.mem_of_mem_take hx))
        have hn0 := HN.out
        rw [List.length_take, hn0, show min (I - 1) n = I - 1 by omega] at hvb
        by_cases hlt : I ≤ K
        · have hltI : (I : Int) ≤ (K : Int) := by omega
          have hIn : (I : Int) < (n : Int) + 1 := by omega
          have hIn2 : I < n + 1 := by omega
          have hi3 : I - 1 < tl.length := by omega
          have hx := HC.out (I - 1) tl[I - 1] (by simp [hi3])
          have hxb := HTB.out tl[I - 1] (List.getElem_mem _)
          rw [show I - 1 + 1 = I by omega] at hx
          have e1 : tl.take I = tl.take (I - 1) ++ [tl[I - 1]] := by
            rw [← List.take_succ_eq_append_getElem hi3, show I - 1 + 1 = I by omega]
          obtain ⟨x, hxe⟩ : ∃ x, tl[I - 1] = x := ⟨_, rfl⟩
          rw [hxe] at hx hxb e1
          obtain ⟨X, rfl⟩ : ∃ X : Nat, x = X := ⟨x.toNat, by omega⟩
          obtain ⟨v, hv⟩ : ∃ v, valP (tl.take (I - 1)) = v := ⟨_, rfl⟩
          have hval : valP (tl.take I) = v * 256 + X := by rw [e1, valP_snoc, hv, Int.toNat_natCast]
          rw [hv] at hvb ⊢
          have hv56 : v < 72057594037927936 := Nat.lt_of_lt_of_le hvb (by
            have := Nat.pow_le_pow_right (n := 256) (by omega) (show I - 1 ≤ 7 by omega)
            simpa using this)
          have hXb : X ≤ 255 := by omega
          have HVAL := Lib.hid hval
          clear hval e1 hv hxe hxb hvb hn0 hi3
          go_wp2_with fail
          go_round
          case rel => exact ⟨I + 1, by omega, by omega, by go_num, by rw [Nat.add_sub_cancel, HVAL.out]; go_num⟩
          case measure => simp [intOf]; omega
        · obtain rfl : I = K + 1 := by omega
          rw [Nat.add_sub_cancel] at hvb ⊢
          obtain ⟨v, hv⟩ : ∃ v, valP (tl.take K) = v := ⟨_, rfl⟩
          rw [hv]
          have HV := Lib.hid hv
          clear hv hvb hn0
          have hltI : ¬ (((K + 1 : Nat) : Int) ≤ (K : Int)) := by omega
          by_cases hbig : most < v
          · have hbi : (most : Int) < (v : Int) := by omega
            have hP : R = none := HR.out.symm.trans (if_pos (.inr (.inr (.inr (by rw [HV.out]; exact hbig)))))
            have hst := HST.out 5
            have HP := Lib.hid hP
            clear hP
            go_wp2_with fail
            exact bodyPost_ret (HEND.out _ HBG.out _ _ (gotL_len _ _ _ _ _) rfl) rfl ⟨by rw [HP.out]; exact ⟨5, rfl, rfl, rfl⟩, HBW.out _⟩
          · have hbi : (v : Int) ≤ (most : Int) := by omega
            have hsome : R = some (v, tl.drop K) := by
              rw [← HV.out]
              refine HR.out.symm.trans (if_neg ?_)
              rw [HV.out, HN.out]
              rintro (h | h | h | h)
              · omega
              · omega
              · exact HZ.out h
              · omega
            obtain ⟨A1, hsl, hy1, hblk1, hnl1⟩ := part8u HY.out c (1 + K) (n + 1) (some (.int .i64 (1 + (K : Int)))) none (by omega) (by rw [HL.out]; omega) (by rw [HL.out]; exact hc) (.inr ⟨_, _, rfl, by omega⟩) (.inl ⟨rfl, HL.out.symm⟩)
            have hdr : (((K : Int) :: tl).drop (1 + K)).take (n + 1 - (1 + K)) = tl.drop K := by
              rw [Nat.add_comm 1 K, List.drop_succ_cons, List.take_of_length_le (by rw [List.length_drop, HN.out]; omega)]
            rw [hdr] at hy1
            rw [HL.out] at hsl
            obtain ⟨r, hr⟩ : ∃ r, tl.drop K = r := ⟨_, rfl⟩
            obtain ⟨m, hm2⟩ : ∃ m, n + 1 - (1 + K) = m := ⟨_, rfl⟩
            obtain ⟨d, hd⟩ : ∃ d, c - (1 + K) = d := ⟨_, rfl⟩
            have hrl : r.length = m := by rw [← hr, List.length_drop, HN.out]; omega
            rw [hr] at hy1 hsome
            rw [hm2, hd] at hsl
            have hsl1 := hsl W
            have hmd : m ≤ d := by omega
            have hnil : A1 = none → d = 0 := fun e => by have := hnl1 e; cases this
            have HS := Lib.hid hsome
            have HY1 := Lib.hid hy1
            have HB1 := Lib.hid hblk1
            have HRL := Lib.hid hrl
            have HNIL := Lib.hid hnil
            have HHD := Lib.hid hd
            have HHM := Lib.hid hm2
            clear hr hm2 hd hrl hsl hsome hy1 hblk1 hdr hnil hnl1
            by_cases hk0 : kd = 0
            · subst hk0
              have hst := STs_blk (P := Tryz.prog) (t := 211) i127 HBG.out (off := 0) (gotL 0 v (.slice none 0 0) 0 (.slice A1 m d)) (gotL_len _ _ _ _ _) (by rw [HZ2.out]; omega) (gotL_one _ _ _ _ _ _ _ _ _)
              go_wp2_with fail
              refine bodyPost_ret (HEND.out _ HBG.out _ _ (gotL_len _ _ _ _ _) rfl) rfl ⟨?_, HBW.out _⟩
              rw [HS.out]
              refine ⟨A1, d, by rw [HRL.out], ?_, HB1.out, by rw [HRL.out]; exact hmd, HNIL.out⟩
              exact HY1.out.fr ((Fr.refl (fun k => k = w.heap.size + 1) W).setRow (fun _ => rfl) _) (fun a ha h0 e => by
                obtain ⟨b, e1, e2⟩ := HB1.out a ha
                cases e1
                simp at e2
                omega)
            · have hk1 : kd = 1 := by have := HKD.out; omega
              subst hk1
              have hk10 : (((1 : Int)) == 0) = false := rfl
              have hwm : IntKind.u64.wrap (m : Int) = (m : Int) := by have := HHM.out; rw [IntKind.wrap_u64]; omega
              by_cases hlong : m < v
              · have hlI : (m : Int) < (v : Int) := by omega
                have hst := HST.out 2
                go_wp2_with fail
                refine bodyPost_ret (HEND.out _ HBG.out _ _ (gotL_len _ _ _ _ _) rfl) rfl ⟨?_, HBW.out _⟩
                rw [HS.out]
                unfold TakePost
                simp only [HRL.out]
                rw [if_neg (by decide), if_pos hlong]
                exact ⟨2, rfl, rfl, rfl⟩
              · have hlI : (v : Int) ≤ (m : Int) := by omega
                have hy1 := HY1.out
                obtain ⟨B2, hs2, hy2, hb2, hn2⟩ := part8u hy1 d 0 v none (some (.int .u64 (v : Int))) (by omega) (by rw [HRL.out]; omega) (by rw [HRL.out]; omega) (.inl ⟨rfl, rfl⟩) (.inr ⟨_, _, rfl, rfl⟩)
                obtain ⟨B3, hs3, hy3, hb3, hn3⟩ := part8u hy1 d v m (some (.int .u64 (v : Int))) none (by omega) (by rw [HRL.out]; omega) (by rw [HRL.out]; omega) (.inr ⟨_, _, rfl, rfl⟩) (.inl ⟨rfl, HRL.out.symm⟩)
                rw [HRL.out] at hs2 hs3
                rw [Nat.sub_zero] at hs2
                have hst := STs_blk (P := Tryz.prog) (t := 211) i127 HBG.out.drew (off := 0) (gotL 1 0 (.slice B2 v d) 0 (.slice B3 (m - v) (d - v))) (gotL_len _ _ _ _ _) (by rw [HZ2.out]; omega) (gotL_one _ _ _ _ _ _ _ _ _)
                have HY2 := Lib.hid hy2
                have HY3 := Lib.hid hy3
                have HB2 := Lib.hid hb2
                have HB3 := Lib.hid hb3
                have HN2 := Lib.hid hn2
                have HN3 := Lib.hid hn3
                have hlN : v ≤ m := by omega
                clear hy1 hy2 hy3 hb2 hb3 hn2 hn3
                go_wp2_with fail
                refine wp_txJ [3, 3, 3, 3, 3, 3, 3, 3, 2] (fun X => X = W.drew) (by kernel_rfl) (by kernel_rfl) (by kernel_rfl) (by kernel_rfl) ?_ ?_
                focus rfl
                iterate 8 (with_reducible refine wpTxJ_evN (v := ?_) (a' := ?_) (by with_unfolding_all rfl) (fun W' => ?_) ?_ ?_; rotate_left 2; (focus (go_simp <;> with_reducible rfl)); focus (go_simp <;> with_reducible rfl))
                with_reducible refine wpTxJ_last (by with_unfolding_all rfl) (fun K0 hK => ?_)  -- store 127 t4 t103
                go_simp
                with_reducible refine hK _ _ ?_
                clear hK K0
                with_reducible refine wpTxJ_nil ?_
                rw [noPan_normal]
                go_wp2_with fail
                refine bodyPost_ret (HEND.out _ HBG.out.drew _ _ (gotL_len _ _ _ _ _) rfl) rfl ⟨?_, Below.setRow HB.out.drew (by omega) _⟩
                rw [HS.out]
                unfold TakePost
                simp only [HRL.out]
                rw [if_neg (by decide), if_neg hlong]
                have htl : (r.take v).length = v := by rw [List.length_take, HRL.out]; omega
                have hdl : (r.drop v).length = m - v := by rw [List.length_drop, HRL.out]
                have hFr : Fr (fun k => k = w.heap.size + 1) W (W.drew.setRow (w.heap.size + 1) (splice Z 0 (gotL 1 0 (.slice B2 v d) 0 (.slice B3 (m - v) (d - v))))) := ((Fr.refl (fun k => k = w.heap.size + 1) W).drew).setRow (fun _ => rfl) _
                have hgb : ∀ a, A1 = some a → a.block ≠ w.heap.size + 1 := fun a ha e => by
                  obtain ⟨b, e1, e2⟩ := HB1.out a ha
                  cases e1
                  simp at e2
                  omega
                have e2 : (r.drop 0).take (v - 0) = r.take v := by simp
                have e3 : (r.drop v).take (m - v) = r.drop v := List.take_of_length_le (by rw [hdl]; exact Nat.le_refl _)
                have y2 := HY2.out
                have y3 := HY3.out
                rw [e2] at y2
                rw [e3] at y3
                refine ⟨B2, d, B3, d - v, by rw [htl, hdl], ⟨y2.fr hFr (fun a ha _ e => ?_), fun a ha => ?_, by rw [htl]; omega, fun e => ?_⟩, ⟨y3.fr hFr (fun a ha _ e => ?_), fun a ha => ?_, by rw [hdl]; omega, fun e => ?_⟩⟩
                · obtain ⟨b, e1, e2⟩ := HB2.out a ha
                  exact hgb b e1 (e2.symm.trans e)
                · obtain ⟨b, e1, e2⟩ := HB2.out a ha
                  obtain ⟨b', e3, e4⟩ := HB1.out b e1
                  exact ⟨b', e3, e2.trans e4⟩
                · exact HNIL.out (HN2.out e)
                · obtain ⟨b, e1, e2⟩ := HB3.out a ha
                  exact hgb b e1 (e2.symm.trans e)
                · obtain ⟨b, e1, e2⟩ := HB3.out a ha
                  obtain ⟨b', e3, e4⟩ := HB1.out b e1
                  exact ⟨b', e3, e2.trans e4⟩
                · have := HNIL.out (HN3.out e); omega
end

end Go.Proofs.YtdkanehjahpehaaGreatDoor
end
