/-
  The document's digests, plainly: the same words in another order.
  The document's digests: a word turned; a slice of words of one's own.
  The document's records, plainly: a number's bytes, and when there is no record.
  The document's numbers as bytes, lengths, digests and sums of fields.
  The document's next field: a number, a text.
-/
import Derived.Test.YtmflhidmhefljaaGreatDoorJShaU
import Derived.Test.YtmflhidmhefljaaGreatDoorJCat
import Derived.Test.YtmflhidmhefljaaGreatDoorJEye
import Derived.Test.YtmflhidmhefljaaGreatDoorJTxtO
import Derived.Deep.CutRange

section
section
namespace Go.Proofs.YtmflhidmhefljaaGreatDoor
open Go.RowKit

theorem or_comm32 (a b : Int) : bits .or .u32 a b = bits .or .u32 b a := by
  simp only [bits, BitVec.or_comm]
theorem not_32 {e : Int} (h : 0 ≤ e ∧ e ≤ 4294967295) : bits .xor .u32 IntKind.u32.max e = 4294967295 - e := by
  obtain ⟨n, rfl⟩ := Int.eq_ofNat_of_zero_le h.1
  have hm : IntKind.u32.max = ((4294967295 : Nat) : Int) := by decide
  have key : ((BitVec.ofNat 32 4294967295) ^^^ (BitVec.ofNat 32 n)).toNat = 4294967295 - n := by
    have e1 : BitVec.ofNat 32 4294967295 = BitVec.allOnes 32 := by decide
    rw [e1, BitVec.allOnes_xor, BitVec.toNat_not, BitVec.toNat_ofNat, Nat.mod_eq_of_lt (by omega)]
  have e3 : bits .xor .u32 ((4294967295 : Nat) : Int) ((n : Nat) : Int) = IntKind.u32.wrap (((BitVec.ofNat 32 4294967295) ^^^ (BitVec.ofNat 32 n)).toNat : Int) := by
    simp only [bits, BitVec.ofInt_natCast]
    rfl
  rw [hm, e3, key, IntKind.wrap_u32]
  omega

/-- Words are words. -/
def W32 (l : List Int) : Prop := ∀ x ∈ l, 0 ≤ x ∧ x ≤ 4294967295
theorem W32.getD {l : List Int} (h : W32 l) (i : Nat) : 0 ≤ l.getD i 0 ∧ l.getD i 0 ≤ 4294967295 := by
  by_cases hi : i < l.length
  · have e : l.getD i 0 = l[i] := by simp [List.getD, hi]
    rw [e]
    exact h _ (List.getElem_mem hi)
  · have e : l.getD i 0 = 0 := by simp [List.getD, hi]
    rw [e]
    omega
theorem roundP_w {v : List Int} (h : W32 v) (k w : Int) : W32 (roundP v k w) := by
  intro x hx
  have h' := fun i => h.getD i
  simp only [roundP, List.mem_cons, List.mem_nil_iff, or_false] at hx
  rcases hx with rfl | rfl | rfl | rfl | rfl | rfl | rfl | rfl
  · omega
  · exact h' 0
  · exact h' 1
  · exact h' 2
  · omega
  · exact h' 4
  · exact h' 5
  · exact h' 6
theorem roundsP_w {h m : List Int} (hh : W32 h) : ∀ k, W32 (roundsP h m k)
  | 0 => by rw [roundsP_zero]; exact hh
  | k + 1 => by rw [roundsP_succ]; exact roundP_w (roundsP_w hh k) _ _
theorem stepP_w (h m : List Int) : W32 (stepP h m) := by
  intro x hx
  obtain ⟨i, _, rfl⟩ := List.mem_map.1 hx
  omega
theorem H0_w : W32 H0 := by
  intro x hx
  simp only [H0, List.mem_cons, List.mem_nil_iff, or_false] at hx
  rcases hx with rfl | rfl | rfl | rfl | rfl | rfl | rfl | rfl <;> omega
theorem hashP_w (m : List Int) : ∀ k, W32 (hashP m k)
  | 0 => by rw [hashP_zero]; exact H0_w
  | k + 1 => by rw [hashP_succ]; exact stepP_w _ _

/-- The document's word turned. -/
def rotQ (x : Int) (n : Nat) : Int := bits .or .u32 (x / 2 ^ n) (IntKind.u32.wrap (x * 2 ^ (32 - n)))
theorem rotQ_eq (x : Int) (n : Nat) : rotQ x n = rotP x n := or_comm32 _ _

/-- A round as the document has it. -/
theorem roundQ {a0 a1 a2 a3 a4 a5 a6 a7 k w : Int} (h4 : 0 ≤ a4 ∧ a4 ≤ 4294967295) :
    [IntKind.u32.wrap (IntKind.u32.wrap (IntKind.u32.wrap (IntKind.u32.wrap (IntKind.u32.wrap (a7 + x3P (rotQ a4 6) (rotQ a4 11) (rotQ a4 25)) + bits .xor .u32 (bits .and .u32 a4 a5) (bits .and .u32 (IntKind.u32.wrap (4294967295 - a4)) a6)) + k) + w) + IntKind.u32.wrap (x3P (rotQ a0 2) (rotQ a0 13) (rotQ a0 22) + x3P (bits .and .u32 a0 a1) (bits .and .u32 a0 a2) (bits .and .u32 a1 a2))),
      a0, a1, a2, IntKind.u32.wrap (a3 + IntKind.u32.wrap (IntKind.u32.wrap (IntKind.u32.wrap (IntKind.u32.wrap (a7 + x3P (rotQ a4 6) (rotQ a4 11) (rotQ a4 25)) + bits .xor .u32 (bits .and .u32 a4 a5) (bits .and .u32 (IntKind.u32.wrap (4294967295 - a4)) a6)) + k) + w)), a4, a5, a6] = roundP [a0, a1, a2, a3, a4, a5, a6, a7] k w := by
  have e1 : IntKind.u32.wrap (4294967295 - a4) = bits .xor .u32 IntKind.u32.max a4 := by rw [not_32 h4, IntKind.wrap_u32]; omega
  rw [e1]
  unfold roundP tP uP
  simp only [rotQ_eq, List.getD_cons_zero, List.getD_cons_succ, IntKind.wrap_u32]
  generalize x3P (rotP a4 6) (rotP a4 11) (rotP a4 25) = s
  generalize bits .xor .u32 (bits .and .u32 a4 a5) (bits .and .u32 (bits .xor .u32 IntKind.u32.max a4) a6) = c
  generalize x3P (rotP a0 2) (rotP a0 13) (rotP a0 22) = t
  generalize x3P (bits .and .u32 a0 a1) (bits .and .u32 a0 a2) (bits .and .u32 a1 a2) = u
  congr 1
  · omega
  · congr 4
    omega

theorem mixP_set (h R : List Int) (j : Nat) : (mixP h R j).set j ((h.getD j 0 + R.getD j 0) % 4294967296) = mixP h R (j + 1) := by
  apply List.ext_getElem
  · simp [mixP_len]
  · intro i h1 h2
    simp only [List.getElem_set, mixP, List.getElem_map, List.getElem_range]
    by_cases e : j = i
    · subst e; simp
    · rw [if_neg e]
      by_cases hlt : i < j
      · rw [if_pos hlt, if_pos (by omega)]
      · rw [if_neg hlt, if_neg (by omega)]
theorem mixP_at (h R : List Int) {j : Nat} (hj : j < 8) : (mixP h R j).getD j 0 = h.getD j 0 := by
  simp [mixP, List.getD, hj]

/-- The bytes of words, the first j of them. -/
def outP (H : List Int) (j : Nat) : List Int := (List.range 32).map fun i => if i < j then IntKind.u8.wrap (H.getD (i / 4) 0 / 2 ^ (24 - 8 * (i % 4))) else 0
theorem outP_zero (H : List Int) : outP H 0 = List.replicate 32 0 := by
  simp only [outP, Nat.not_lt_zero, if_false]
  rfl
theorem outP_len (H : List Int) (j : Nat) : (outP H j).length = 32 := by simp [outP]
theorem outP_set (H : List Int) (j : Nat) : (outP H j).set j (IntKind.u8.wrap (H.getD (j / 4) 0 / 2 ^ (24 - 8 * (j % 4)))) = outP H (j + 1) := by
  apply List.ext_getElem
  · simp [outP_len]
  · intro i h1 h2
    simp only [List.getElem_set, outP, List.getElem_map, List.getElem_range]
    by_cases e : j = i
    · subst e; simp
    · rw [if_neg e]
      by_cases hlt : i < j
      · rw [if_pos hlt, if_pos (by omega)]
      · rw [if_neg hlt, if_neg (by omega)]
theorem outP_all {H : List Int} (h : H.length = 8) : outP H 32 = H.flatMap fun w => beN w 4 := by
  match H, h with
  | [a, b, c, d, e, f, g, i], _ => rfl
theorem shaP_eq (b : List Int) : shaP b = (hashP (padP b) ((padP b).length / 64)).flatMap fun w => beN w 4 := by unfold shaP; rfl

/-- A round as the walk shows it. -/
theorem roundQ2 {a0 a1 a2 a3 a4 a5 a6 a7 k w : Int} (h4 : 0 ≤ a4 ∧ a4 ≤ 4294967295) :
    [IntKind.u32.wrap ((a7 + bits .xor .u32 (bits .xor .u32 (rotQ a4 6) (rotQ a4 11)) (rotQ a4 25) + bits .xor .u32 (bits .and .u32 a4 a5) (bits .and .u32 ((4294967295 - a4) % 4294967296) a6) + k + w) % 4294967296 +
        (bits .xor .u32 (bits .xor .u32 (rotQ a0 2) (rotQ a0 13)) (rotQ a0 22) + bits .xor .u32 (bits .xor .u32 (bits .and .u32 a0 a1) (bits .and .u32 a0 a2)) (bits .and .u32 a1 a2)) % 4294967296),
      a0, a1, a2, IntKind.u32.wrap (a3 + (a7 + bits .xor .u32 (bits .xor .u32 (rotQ a4 6) (rotQ a4 11)) (rotQ a4 25) + bits .xor .u32 (bits .and .u32 a4 a5) (bits .and .u32 ((4294967295 - a4) % 4294967296) a6) + k + w) % 4294967296), a4, a5, a6] = roundP [a0, a1, a2, a3, a4, a5, a6, a7] k w := by
  rw [← roundQ h4]
  unfold x3P
  simp only [IntKind.wrap_u32]
  generalize bits .xor .u32 (bits .xor .u32 (rotQ a4 6) (rotQ a4 11)) (rotQ a4 25) = s
  generalize bits .xor .u32 (bits .and .u32 a4 a5) (bits .and .u32 ((4294967295 - a4) % 4294967296) a6) = c
  generalize bits .xor .u32 (bits .xor .u32 (rotQ a0 2) (rotQ a0 13)) (rotQ a0 22) = t
  generalize bits .xor .u32 (bits .xor .u32 (bits .and .u32 a0 a1) (bits .and .u32 a0 a2)) (bits .and .u32 a1 a2) = u
  congr 1
  · omega
  · congr 4
    omega

end Go.Proofs.YtmflhidmhefljaaGreatDoor
end

section
namespace Go.Proofs.YtmflhidmhefljaaGreatDoor
open Go.RowKit
set_option maxRecDepth 100000

theorem right_c (x n : Int) (hn : n = 2 ∨ n = 6 ∨ n = 7 ∨ n = 11 ∨ n = 13 ∨ n = 17 ∨ n = 18 ∨ n = 19 ∨ n = 22 ∨ n = 25) (w : World) :
    Calls Tryz.prog 91 #[.int .u32 x, .int .i64 n] w fun e w' => e = .returned (.int .u32 (rotQ x n.toNat)) ∧ ∃ k, w' = w.drewN k := by
  rcases hn with rfl | rfl | rfl | rfl | rfl | rfl | rfl | rfl | rfl | rfl
  all_goals
    go_enter Tryz.func91, Tryz.ntmps91
    go_wp2_with fail
    go_quiet (fail)
    go_wp2_with fail
    go_ret
    exact ⟨rfl, _, rfl⟩

/-! ### Slices of words of one's own -/
theorem u155 : Tryz.prog.underlying 113 = some (.slice 118) := by kernel_rfl
theorem i155 : (Tryz.prog.info? 118).map (fun i => (i.zero.map (·.cells.size), i.size, i.bytes)) = some (some 1, 1, 4) := by kernel_rfl
theorem apt155_of (xs : Array Value) (t : TypeId) : Builtin.append_ #[113, 113] t xs = APs #[113, 113] t xs := rfl
theorem apt22_of (xs : Array Value) (t : TypeId) : Builtin.append_ #[22, 22] t xs = APs #[22, 22] t xs := rfl

theorem own_nul (w : World) (e : TypeId) (base : Nat) (hb : base ≤ w.heap.size) : (w.alloc (.cells #[] e)).ownsRow base e 1 (.slice (some ⟨w.heap.size, 0, none⟩) 0 0) 0 [] :=
  ⟨by simp, .inr ⟨w.heap.size, 0, #[], rfl, hb, heap_alloc_new w _, Nat.le_refl _, by simp, by simp, by simp⟩⟩

/-- The slice v has the words l, in a row of one's own. -/
def Own32 (B : Nat) (w : World) (v : Value) (l : List Int) : Prop := w.ownsRow B 118 1 v l.length (w32s l)
section
variable {B : Nat} {w w' : World} {v : Value} {l : List Int}
theorem Own32.nil (B : Nat) (w : World) : Own32 B w (.slice none 0 0) [] := World.ownsRow_nil _ _ _ _
theorem Own32.fr {F : Nat → Prop} (h : Own32 B w v l) (hf : Fr F w w') (hn : ∀ k, v.ownBlock = some k → ¬ F k) : Own32 B w' v l := own_fr h hf hn
theorem Own32.below {n₀ : Nat} (h : Own32 B w v l) (hb : Below n₀ w w') (hn : ∀ k, v.ownBlock = some k → k < n₀) : Own32 B w' v l := h.fr (Fr.of_below hb) (fun k hk f => by have := hn k hk; omega)
theorem Own32.form (h : Own32 B w v l) : ∃ A c, v = .slice A l.length c := own_form h
theorem Own32.lt (h : Own32 B w v l) {k : Nat} (hk : v.ownBlock = some k) : B ≤ k ∧ k < w.heap.size := World.ownsRow.lt h k hk
/-- Where the words lie. -/
theorem Own32.cells (h : Own32 B w v l) (h0 : 0 < l.length) : ∃ g cap, v = .slice (some ⟨g, 0, none⟩) l.length cap ∧ B ≤ g ∧ g < w.heap.size ∧ ∀ i, i < l.length → w.cell? ⟨g, i, none⟩ = some (.int .u32 (l.getD i 0)) ∧ w.frozen? ⟨g, i, none⟩ = false := by
  obtain ⟨h1, ⟨_, h3⟩ | ⟨g, cap, cur, rfl, hg, hh, hl, hm, hs, ht⟩⟩ := h
  · omega
  · refine ⟨g, cap, rfl, hg, (Array.getElem?_eq_some_iff.1 hh).1, fun i hi => ⟨?_, frozen_of_row w g i cur _ hh⟩⟩
    rw [cell_of_row w g i cur _ (0, 0) hh]
    have e : (w32s l)[i]? = some (.int .u32 (l.getD i 0)) := by simp [w32s, List.getD, hi]
    rw [← ht, List.getElem?_take, if_pos (by omega), Array.getElem?_toList] at e
    exact e
/-- A word turned. -/
theorem Own32.put {g n cap : Nat} (h : Own32 B w (.slice (some ⟨g, 0, none⟩) n cap) l) (i : Nat) (_hi : i < l.length) (x : Int) : Own32 B (w.setCell ⟨g, i, none⟩ (.int .u32 x)) (.slice (some ⟨g, 0, none⟩) n cap) (l.set i x) := by
  refine ⟨by simp [w32s_len], ?_⟩
  rcases h.2 with ⟨h0, _⟩ | ⟨g', cap', cur, hv, hb, hh, hn, hm, hsz, ht⟩
  · cases h0
  · simp only [Value.slice.injEq, Option.some.injEq, Addr.mk.injEq, and_true] at hv
    obtain ⟨rfl, rfl, rfl⟩ := hv
    refine .inr ⟨g, cap, cur.setIfInBounds i (.int .u32 x), by simp, hb, heap_setCell_same w g i cur _ _ hh, by simpa using hn, hm, by simpa using hsz, ?_⟩
    rw [Nat.mul_one] at ht ⊢
    rw [List.length_set, Array.toList_setIfInBounds, List.take_set, ht]
    simp [w32s, List.map_set]
/-- An append of words, wherever they lie. -/
theorem app32 {ty : TypeId} (h : Own32 B w v l) {a : Addr} {m : List Int} {c : Nat} (hm : ∀ j x, m[j]? = some x → w.cell? (a.add j) = some (.int .u32 x)) (hlen : l.length + m.length ≤ 1000000000) (hB : B ≤ w.heap.size) :
    ∃ v' w', (APs #[113, 113] ty #[v, .slice (some a) m.length c]).run Tryz.prog w = .ok v' w' ∧ Own32 B w' v' (l ++ m) ∧ Fr (fun k => v.ownBlock = some k) w w' ∧ Foot w v v' := by
  obtain ⟨v', w', h1, h2, h3, h4⟩ := APs_own (P := Tryz.prog) (ty := ty) u155 i155 (by omega) h (a := a) (m := m.length) (c := c) (w32s m) (by simp [w32s_len]) (fun j u hu => by
    unfold w32s at hu
    rw [List.getElem?_map] at hu
    obtain ⟨x, hx, rfl⟩ := Option.map_eq_some_iff.1 hu
    exact hm j x hx) (w32s_one m) (by unfold maxLen; omega) (by omega) hB
  refine ⟨v', w', h1, ?_, (Fr.refl _ w).grown h3 (fun k _ e => e), ?_⟩
  · unfold Own32
    rw [show w32s (l ++ m) = w32s l ++ w32s m from by simp [w32s], List.length_append]
    exact h2
  · intro j hj
    rcases h4 with e | e
    · exact .inl (e ▸ hj)
    · right
      rw [e] at hj
      injection hj with hj
      omega
/-- One word more, which is laid in a block of its own ahead. -/
theorem app32_one {ty : TypeId} (h : Own32 B w v l) (x : Int) (hlen : l.length + 1 ≤ 1000000000) (hB : B ≤ w.heap.size) :
    ∃ v' w', (APs #[113, 113] ty #[v, .slice (some ⟨w.heap.size, 0, none⟩) 1 1]).run Tryz.prog (w.alloc (.cells #[.int .u32 x] 118)) = .ok v' w' ∧ Own32 B w' v' (l ++ [x]) ∧ Fr (fun k => v.ownBlock = some k) w w' ∧ Foot w v v' := by
  have hb : Blk (w.alloc (.cells #[.int .u32 x] 118)) w.heap.size 118 #[.int .u32 x] := Blk.new w _ _
  obtain ⟨v', w', h1, h2, h3, h4⟩ := app32 (ty := ty) (m := [x]) (c := 1) (a := ⟨w.heap.size, 0, none⟩) (w := w.alloc (.cells #[.int .u32 x] 118)) (World.ownsRow.alloc h _) (fun j y hy => by
    have hadd : (⟨w.heap.size, 0, none⟩ : Addr).add j = ⟨w.heap.size, j, none⟩ := by unfold Addr.add; split <;> simp_all
    rw [hadd, hb.cell j]
    have hj : j < [x].length := (List.getElem?_eq_some_iff.1 hy).1
    obtain rfl : j = 0 := by simpa using hj
    simp at hy
    subst hy
    rfl) (by simpa using hlen) (by simp; omega)
  refine ⟨v', w', h1, h2, ((Fr.refl _ w).alloc _).trans h3 (fun k _ e => e), ?_⟩
  intro j hj
  rcases h4 j hj with e | e
  · exact .inl e
  · right; simp at e; omega
/-- The same behind a draw. -/
theorem app32_oneD {ty : TypeId} (h : Own32 B w v l) (x : Int) (hlen : l.length + 1 ≤ 1000000000) (hB : B ≤ w.heap.size) (k : Nat) :
    ∃ v' w', (APs #[113, 113] ty #[v, .slice (some ⟨w.heap.size, 0, none⟩) 1 1]).run Tryz.prog ((w.alloc (.cells #[.int .u32 x] 118)).drewN k) = .ok v' w' ∧ Own32 B w' v' (l ++ [x]) ∧ Fr (fun k => v.ownBlock = some k) w w' ∧ Foot w v v' := by
  have hb : Blk (w.alloc (.cells #[.int .u32 x] 118)) w.heap.size 118 #[.int .u32 x] := Blk.new w _ _
  have h0 : Own32 B ((w.alloc (.cells #[.int .u32 x] 118)).drewN k) v l := World.ownsRow.alloc h _
  obtain ⟨v', w', h1, h2, h3, h4⟩ := app32 (ty := ty) (m := [x]) (c := 1) (a := ⟨w.heap.size, 0, none⟩) h0 (fun j y hy => by
    have hadd : (⟨w.heap.size, 0, none⟩ : Addr).add j = ⟨w.heap.size, j, none⟩ := by unfold Addr.add; split <;> simp_all
    rw [hadd, (hb.drewN k).cell j]
    have hj : j < [x].length := (List.getElem?_eq_some_iff.1 hy).1
    obtain rfl : j = 0 := by simpa using hj
    simp at hy
    subst hy
    rfl) (by simpa using hlen) (by simp [World.drewN]; omega)
  refine ⟨v', w', h1, h2, (((Fr.refl _ w).alloc _).drewN k).trans h3 (fun k _ e => e), ?_⟩
  intro j hj
  rcases h4 j hj with e | e
  · exact .inl e
  · right; simp [World.drewN] at e; omega
/-- A copy of words: append([]uint32{}, h...). -/
theorem copy32 {ty : TypeId} (w : World) {a : Addr} {m : List Int} {c : Nat} (hm : ∀ j x, m[j]? = some x → w.cell? (a.add j) = some (.int .u32 x)) (ha : 0 < m.length → a.block < w.heap.size) (hlen : m.length ≤ 1000000000) :
    ∃ v' w', (APs #[113, 113] ty #[.slice (some ⟨w.heap.size, 0, none⟩) 0 0, .slice (some a) m.length c]).run Tryz.prog (w.alloc (.cells #[] 118)) = .ok v' w' ∧ Own32 w.heap.size w' v' m ∧ Below w.heap.size w w' := by
  have h0 : Own32 w.heap.size (w.alloc (.cells #[] 118)) (.slice (some ⟨w.heap.size, 0, none⟩) 0 0) [] := own_nul w _ _ (Nat.le_refl _)
  obtain ⟨v', w', h1, h2, h3, h4⟩ := app32 (ty := ty) (a := a) (m := m) (c := c) h0 (fun j x hx => by
    have hj : j < m.length := (List.getElem?_eq_some_iff.1 hx).1
    have hab : (a.add j).block = a.block := by unfold Addr.add; split <;> rfl
    have := hm j x hx
    rw [← this]
    exact ((Below.refl _ w).alloc (Nat.le_refl _) _).cell (by rw [hab]; exact ha (by omega))) (by simpa using hlen) (by simp)
  refine ⟨v', w', h1, by simpa using h2, ?_⟩
  exact ((Below.refl _ w).alloc (Nat.le_refl _) _).trans (h3.below (by simp) (fun k hk e => by
    simp [Value.ownBlock] at e
    omega))
/-- Words laid in a block of their own. -/
theorem own32_lit (w : World) (l : List Int) (hB : B ≤ w.heap.size) (hl : l.length ≤ 1000000000) : Own32 B (w.alloc (.cells (w32s l).toArray 118)) (.slice (some ⟨w.heap.size, 0, none⟩) l.length l.length) l :=
  ⟨by simp [w32s_len], .inr ⟨w.heap.size, l.length, (w32s l).toArray, rfl, hB, heap_alloc_new w _, Nat.le_refl _, by unfold maxLen; omega, by simp [w32s_len], by simp [w32s_len, List.take_of_length_le]⟩⟩
end

end Go.Proofs.YtmflhidmhefljaaGreatDoor
end

section
namespace Go.Proofs.YtmflhidmhefljaaGreatDoor
open Go.RowKit

theorem beN_snoc (v : Int) (k : Nat) : beN v (k + 1) = beN (v / 256) k ++ [IntKind.u8.wrap v] := by
  apply List.ext_getElem
  · simp [beN]
  · intro i h1 h2
    simp only [beN_len] at h1
    simp only [beN, List.getElem_map, List.getElem_range, List.getElem_append, List.length_map, List.length_range]
    by_cases hi : i < k
    · rw [dif_pos hi]
      congr 1
      rw [Int.ediv_ediv_of_nonneg (by decide), show (256 : Int) = 2 ^ 8 from rfl, ← Int.pow_add]
      congr 2
      omega
    · obtain rfl : i = k := by omega
      rw [dif_neg hi]
      simp
theorem beN_be (n : Nat) : beN (n : Int) (leP n).length = beP n := by
  induction n using Nat.strongRecOn with
  | ind n ih =>
    by_cases h : n = 0
    · subst h; simp [beP, leP_zero, beN]
    · have e : beP n = beP (n / 256) ++ [((n % 256 : Nat) : Int)] := by unfold beP; rw [leP_pos (by omega)]; simp
      rw [e, leP_pos (by omega), List.length_cons, beN_snoc, ← ih (n / 256) (by omega), IntKind.wrap_u8']
      congr 2
theorem leP_div (n : Nat) : (leP n).length = if n = 0 then 0 else (leP (n / 256)).length + 1 := by
  by_cases h : n = 0
  · subst h; simp [leP_zero]
  · rw [leP_pos (by omega)]; simp [h]

theorem readP_short {b : List Int} (h : b.length < 12) : readP b = none := by unfold readP; rw [if_pos h]
theorem readP_out {b : List Int} (h : 1024 < secP (12 + word4P b) ∨ b.length < secP (12 + word4P b) * 64) : readP b = none := by
  unfold readP
  split
  · rfl
  · first | rfl | rw [if_pos h]
theorem readP_bad {b : List Int} (h : (b.drop 4).take 8 ≠ sumP ((b.drop 12).take (word4P b)) ∨ ((b.drop (12 + word4P b)).take (secP (12 + word4P b) * 64 - (12 + word4P b))).any (· != 0) = true) : readP b = none := by
  unfold readP
  split
  · rfl
  split
  · rfl
  · first | rfl | rw [if_pos h]
theorem readP_eye {b : List Int} (h0 : 12 ≤ b.length) (h1 : secP (12 + word4P b) ≤ 1024) (h2 : secP (12 + word4P b) * 64 ≤ b.length) (h3 : (b.drop 4).take 8 = sumP ((b.drop 12).take (word4P b)))
    (h4 : ((b.drop (12 + word4P b)).take (secP (12 + word4P b) * 64 - (12 + word4P b))).any (· != 0) = false) :
    readP b = match eyeP ((b.drop 12).take (word4P b)) (word4P b) with | none => none | some (t, n, x) => some ⟨t, n, secP (12 + word4P b), x⟩ := by
  unfold readP
  rw [if_neg (by omega), if_neg (by omega), if_neg (fun h => h.elim (fun h => h h3) (fun h => by rw [h4] at h; cases h))]
  cases eyeP ((b.drop 12).take (word4P b)) (word4P b) <;> rfl
/-- A byte behind the fields that is none. -/
theorem any_at {b : List Int} {o n i : Nat} (h0 : o ≤ i) (h1 : i < o + n) (h2 : b.getD i 0 ≠ 0) : ((b.drop o).take n).any (· != 0) = true := by
  have hlt : i < b.length := by
    rcases Nat.lt_or_ge i b.length with h | h
    · exact h
    · exact absurd (by simp [List.getD, h]) h2
  have e : ((b.drop o).take n)[i - o]? = some (b.getD i 0) := by
    rw [List.getElem?_take, if_pos (by omega), List.getElem?_drop, show o + (i - o) = i by omega]
    simp [List.getD, hlt]
  rw [List.any_eq_true]
  exact ⟨_, List.mem_of_getElem? e, by simpa using h2⟩
theorem any_none {b : List Int} {o n : Nat} (h : ∀ i, o ≤ i → i < o + n → b.getD i 0 = 0) : ((b.drop o).take n).any (· != 0) = false := by
  rw [List.any_eq_false]
  intro x hx
  obtain ⟨j, hj⟩ := List.mem_iff_getElem?.1 hx
  rw [List.getElem?_take] at hj
  split at hj
  · rename_i hjn
    rw [List.getElem?_drop] at hj
    have := h (o + j) (by omega) (by omega)
    simp only [List.getD, hj, Option.getD_some] at this
    simp [this]
  · cases hj
theorem padP_bd {b : List Int} (hb : ∀ x ∈ b, 0 ≤ x ∧ x ≤ 255) : ∀ x ∈ padP b, 0 ≤ x ∧ x ≤ 255 := by
  intro x hx
  simp only [padP, List.mem_append, List.mem_cons] at hx
  rcases hx with hx | rfl | hx | hx
  · exact hb x hx
  · omega
  · rw [List.eq_of_mem_replicate hx]; omega
  · exact beN_bd _ _ x hx
/-- Two rows of eight bytes. -/
theorem eight_eq {a c : List Int} (ha : a.length = 8) (hc : c.length = 8) (h : ∀ i, i < 8 → a.getD i 0 = c.getD i 0) : a = c := by
  apply List.ext_getElem (by omega)
  intro i h1 h2
  have := h i (by omega)
  simpa [List.getD, h1, h2] using this

end Go.Proofs.YtmflhidmhefljaaGreatDoor
end

section
namespace Go.Proofs.YtmflhidmhefljaaGreatDoor
open Go.RowKit
set_option maxRecDepth 100000

/-- Bytes laid in a block of their own. -/
theorem own8_lit {B : Nat} (w : World) (l : List Int) (hB : B ≤ w.heap.size) (hl : l.length ≤ 1000000000) : Own8 B (w.alloc (.cells (bys l).toArray 5)) (.slice (some ⟨w.heap.size, 0, none⟩) l.length l.length) l :=
  ⟨by simp [bys_length], .inr ⟨w.heap.size, l.length, (bys l).toArray, rfl, hB, heap_alloc_new w _, Nat.le_refl _, by unfold maxLen; omega, by simp [bys_length], by simp [bys_length, List.take_of_length_le]⟩⟩

section
attribute [local go_sem ↓] apt22_of

set_option maxHeartbeats 4000000 in
theorem rnum_any (n : Nat) (hn : n < 18446744073709551616) (w : World) :
    Calls Tryz.prog 61 #[.int .u64 (n : Int)] w fun e w' => ∃ v, e = .returned v ∧ Own8 w.heap.size w' v (numP n) ∧ Below w.heap.size w w' := by
  obtain ⟨K, hK⟩ : ∃ K, (leP n).length = K := ⟨_, rfl⟩
  have hK8 : K ≤ 8 := hK ▸ leP_len8 hn
  have HK := Lib.hid hK
  clear hK
  go_enter Tryz.func61, Tryz.ntmps61
  go_wp2_with fail
  go_loop [3, 4] (fun k v => ∃ (m j : Nat), k = .int .i64 (j : Int) ∧ v = .int .u64 (m : Int) ∧ m ≤ n ∧ (leP m).length + j = K) (fun _ v => (intOf v).toNat)
  case atStart => exact ⟨n, 0, rfl, rfl, Nat.le_refl _, HK.out⟩
  case round =>
    obtain ⟨m, j, rfl, rfl, hm, hj⟩ := hrel
    by_cases h0 : 0 < m
    · have hpos : (0 : Int) < (m : Int) := by omega
      rw [leP_pos h0, List.length_cons] at hj
      have HJ := Lib.hid hj
      have hj8 : j ≤ 8 := by omega
      clear hj
      go_wp2_with fail
      go_round
      case rel => exact ⟨m / 256, j + 1, by go_num, by go_num, by omega, by have := HJ.out; omega⟩
      case measure => simp [intOf]; omega
    · obtain rfl : m = 0 := by omega
      have hjK : K = j := by rw [leP_zero] at hj; simpa using hj.symm
      subst hjK
      have hW := own8_lit (B := w.heap.size) w [(K : Int)] (Nat.le_refl _) (by simp)
      have hB0 : Below w.heap.size w (w.alloc (.cells (bys [(K : Int)]).toArray 5)) := (Below.refl _ w).alloc (Nat.le_refl _) _
      have HW := Lib.hid hW
      have HB0 := Lib.hid hB0
      clear hW hB0 hj
      go_wp2_with fail
      go_loopg [5, 6] K (fun k v t wr => ∃ (i : Nat) (A : Option Addr) (c : Nat), i + k = K ∧ ((i < K ∧ t = .int .i64 ((K - 1 - i : Nat) : Int)) ∨ (i = K ∧ t = .int .i64 (-1))) ∧ v = .slice A (1 + i) c ∧ Own8 w.heap.size wr v ((K : Int) :: (beN (n : Int) K).take i) ∧ Below w.heap.size w wr)
      case atStart =>
        refine ⟨0, _, _, by omega, ?_, rfl, HW.out, HB0.out⟩
        rcases Nat.eq_zero_or_pos K with h | h
        · exact .inr ⟨h.symm, by go_num⟩
        · exact .inl ⟨h, by go_num⟩
      case round =>
        clear HW HB0
        obtain ⟨i, A, c, hi, ht, rfl, ho, hbl⟩ := hrel
        have hlj : ((K : Int) :: (beN (n : Int) K).take i).length = 1 + i := by rw [List.length_cons, List.length_take, beN_len]; omega
        have HBl := Lib.hid hbl
        rcases ht with ⟨hiK, rfl⟩ | ⟨rfl, rfl⟩
        · have hxe : (beN (n : Int) K).getD i 0 = (n : Int) / 2 ^ (8 * (K - 1 - i)) % 256 := by
            rw [beN_get _ hiK, IntKind.wrap_u8']
          have hxt : (beN (n : Int) K).take (i + 1) = (beN (n : Int) K).take i ++ [(n : Int) / 2 ^ (8 * (K - 1 - i)) % 256] := by
            rw [List.take_succ_eq_append_getElem (by rw [beN_len]; exact hiK), ← hxe]
            simp [List.getD, beN_len, hiK]
          obtain ⟨v', w', hap, ho', hf', _⟩ := app8_one (ty := 22) (x := (n : Int) / 2 ^ (8 * (K - 1 - i)) % 256) ho (by omega) (by rw [hlj]; omega) hbl.size
          obtain ⟨A6, c6, rfl⟩ := ho'.form
          rw [List.length_append, hlj] at hap ho'
          rw [List.cons_append, ← hxt] at ho'
          have HO2 := Lib.hid ho
          have HO' := Lib.hid ho'
          have HF' := Lib.hid hf'
          clear ho ho' hf' hlj hbl hxe hxt
          go_wp2_with fail
          go_roundg (K - (i + 1))
          case measure => omega
          case rel =>
            refine ⟨i + 1, _, _, by omega, ?_, rfl, HO'.out, HBl.out.trans (HF'.out.below HBl.out.size (fun k hk e => by have := (HO2.out.lt e).1; omega))⟩
            by_cases h7 : i + 1 = K
            · exact .inr ⟨h7, by go_num⟩
            · exact .inl ⟨by omega, by go_num⟩
        · have hnum : (i : Int) :: beN (n : Int) i = numP n := by
            have h1 := beN_be n
            rw [HK.out] at h1
            rw [h1, numP, HK.out]
          rw [List.take_of_length_le (by rw [beN_len]; exact Nat.le_refl _), hnum] at ho
          have HO := Lib.hid ho
          clear ho hlj hbl hnum
          go_wp2_with fail
          go_ret
          exact ⟨_, rfl, HO.out, HBl.out⟩

theorem be4_cells (m : Nat) : (bys (be4P m)).toArray = #[.int .u8 ((m : Int) / 16777216 % 256), .int .u8 ((m : Int) / 65536 % 256), .int .u8 ((m : Int) / 256 % 256), .int .u8 ((m : Int) % 256)] := by
  simp [be4P, bys]

set_option maxHeartbeats 2000000 in
theorem rlong_any (A : Option Addr) (c : Nat) (hcA : A = none → c = 0) (b : List Int) (w : World) (hb : Byt w A b) (hl : b.length ≤ 500000000) :
    Calls Tryz.prog 41 #[.slice A b.length c] w fun e w' => ∃ v, e = .returned v ∧ Own8 w.heap.size w' v (be4P b.length ++ b) ∧ Below w.heap.size w w' := by
  obtain ⟨m, hm⟩ : ∃ m, b.length = m := ⟨_, rfl⟩
  have h0 := own8_lit (B := w.heap.size) w (be4P m) (Nat.le_refl _) (by simp [be4P_len])
  have hB0 : Below w.heap.size w (w.alloc (.cells (bys (be4P m)).toArray 5)) := (Below.refl _ w).alloc (Nat.le_refl _) _
  obtain ⟨v2, w2, hap, ho2, hf2, _⟩ := app8 (ty := 22) (c := c) h0 (hb.below hB0) (by rw [be4P_len]; omega) (by simp) hcA
  have hB2 : Below w.heap.size w w2 := hB0.trans (hf2.below (by simp) (fun k hk e => by have := (h0.lt e).1; omega))
  rw [hm, be4P_len, be4_cells] at hap
  rw [hm]
  have HO := Lib.hid ho2
  have HB := Lib.hid hB2
  clear hb hm h0 hB0 ho2 hf2 hB2
  go_enter Tryz.func41, Tryz.ntmps41
  go_wp2_with fail
  go_ret
  exact ⟨_, rfl, HO.out, HB.out⟩
end

end Go.Proofs.YtmflhidmhefljaaGreatDoor
end
end

section
namespace Go.Proofs.YtmflhidmhefljaaGreatDoor
open Go.RowKit
set_option maxRecDepth 100000

/-! ### Fields, and what was read, as values -/
def fldL (k n : Int) (b : Value) : List Value := [.int .i64 k, .int .u64 n, b] ++ List.replicate 32 (.int .u8 0)
def gotL (k n : Int) (b : Value) (e : Int) (left : Value) : List Value := fldL k n b ++ [.int .i64 e, left]
theorem fldL_len (k n : Int) (b : Value) : (fldL k n b).length = 35 := by simp [fldL]
theorem gotL_len (k n : Int) (b : Value) (e : Int) (left : Value) : (gotL k n b e left).length = 37 := by simp [gotL, fldL]
theorem gotL_one (k n : Int) (B : Option Addr) (j d : Nat) (e : Int) (A : Option Addr) (m c : Nat) : ∀ v ∈ gotL k n (.slice B j d) e (.slice A m c), v.oneCell' = true := by
  intro v hv
  simp only [gotL, fldL, List.mem_append, List.mem_cons, List.mem_replicate, List.mem_nil_iff, or_false] at hv
  rcases hv with (((rfl | rfl | rfl) | ⟨_, rfl⟩) | rfl | rfl) <;> rfl

/-- A part of a slice, by numbers of whatever kind. -/
theorem part8u {w : World} {A : Option Addr} {L : List Int} (hb : Byt w A L) (c l h : Nat) (vl vh : Option Value) (hl : l ≤ h) (hh : h ≤ L.length) (hc : L.length ≤ c)
    (el : (vl = none ∧ l = 0) ∨ ∃ k x, vl = some (.int k x) ∧ x = l) (eh : (vh = none ∧ h = L.length) ∨ ∃ k x, vh = some (.int k x) ∧ x = h) :
    ∃ A', (∀ W : World, (SLs 22 (.slice A L.length c) vl vh none).run Tryz.prog W = .ok (.slice A' (h - l) (c - l)) W) ∧ Byt w A' ((L.drop l).take (h - l)) ∧ (∀ a, A' = some a → ∃ b, A = some b ∧ a.block = b.block) ∧ (A' = none → A = none) := by
  obtain ⟨i, hq, hi⟩ := Option.map_eq_some_iff.1 i5
  refine ⟨if c = l then A else A.map (·.add l), fun W => ?_, ⟨fun h0 => ?_, fun x hx => hb.bd x (List.mem_of_mem_drop (List.mem_of_mem_take hx))⟩, ?_, ?_⟩
  · have hm : h ≤ c := by omega
    have e1 : ¬ ((h : Int) < 0 ∨ (L.length : Int) < (h : Int)) := by omega
    have b1 : ((0 : Int) ≤ (h : Int) ∧ (h : Int) ≤ (c : Int)) := by omega
    have b2 : ((0 : Int) ≤ (l : Int) ∧ (l : Int) ≤ (h : Int)) := by omega
    rcases el with ⟨rfl, rfl⟩ | ⟨k, x, rfl, rfl⟩ <;> rcases eh with ⟨rfl, rfl⟩ | ⟨k', y, rfl, rfl⟩ <;>
      (simp [SLs, Instr.sliceAt, Instr.slice, Instr.sliceBounds, Instr.sliceBound, asIntOf, run_underlying u22, sizeOf, typeInfo, hq, hi, hl, hm])
  · have hlen : 0 < ((L.drop l).take (h - l)).length := h0
    simp only [List.length_take, List.length_drop] at hlen
    obtain ⟨g, o, rfl, hg, hc'⟩ := hb.cell (by omega)
    have hadd : (⟨g, o, none⟩ : Addr).add l = ⟨g, o + l, none⟩ := by unfold Addr.add; split <;> simp_all
    refine ⟨g, o + l, ?_, hg, fun j x hx => ?_⟩
    · rw [if_neg (by omega)]
      simp [hadd]
    · rw [List.getElem?_take] at hx
      split at hx
      · rw [List.getElem?_drop] at hx
        rw [Nat.add_assoc]
        exact hc' _ x hx
      · cases hx
  · intro a e
    split at e
    · exact ⟨a, e, rfl⟩
    · obtain ⟨b, hb1, rfl⟩ := Option.map_eq_some_iff.1 e
      exact ⟨b, hb1, by unfold Addr.add; split <;> simp_all⟩
  · intro e
    split at e
    · exact e
    · simpa using e

/-- What is behind the taking of a field. -/
def TakeErr (e : Ending) : Prop := ∃ x : Int, (x != 0) = true ∧ (x == 0) = false ∧ e = .returned (.agg (gotL 0 0 (.slice none 0 0) x (.slice none 0 0)).toArray)
/-- A part of the slice A, c. -/
structure Part8 (w : World) (A : Option Addr) (A' : Option Addr) (c' : Nat) (l : List Int) : Prop where
  byt : Byt w A' l
  blk : ∀ a, A' = some a → ∃ b, A = some b ∧ a.block = b.block
  cap : l.length ≤ c'
  nul : A' = none → c' = 0
def TakeNum (w : World) (A : Option Addr) (v : Nat) (r : List Int) (e : Ending) : Prop :=
  ∃ A' c', e = .returned (.agg (gotL 0 v (.slice none 0 0) 0 (.slice A' r.length c')).toArray) ∧ Part8 w A A' c' r
def TakeText (w : World) (A : Option Addr) (t r : List Int) (e : Ending) : Prop :=
  ∃ B d A' c', e = .returned (.agg (gotL 1 0 (.slice B t.length d) 0 (.slice A' r.length c')).toArray) ∧ Part8 w A B d t ∧ Part8 w A A' c' r
def TakePost (w : World) (A : Option Addr) (kd : Int) (R : Option (Nat × List Int)) (e : Ending) : Prop :=
  match R with
  | none => TakeErr e
  | some (v, r) => if kd = 0 then TakeNum w A v r e else if r.length < v then TakeErr e else TakeText w A (r.take v) (r.drop v) e

section
attribute [local go_sem ↓] sle_of
end

end Go.Proofs.YtmflhidmhefljaaGreatDoor
end
