/-
  The drum, plainly: what is sure, what waits, the fuse, the power. No program in sight.
  The drum in memory; Sync.
-/
import Derived.Test.YtmflhidmhefljaaDoorDrumA

section
namespace Go.Proofs.YtmflhidmhefljaaDoor

structure DS where
  sure : List (List Int)
  waits : List (Nat × List Int)
  fuse : Int
  off : Bool

/-- A sector's bytes. -/
def Sec (s : List Int) : Prop := s.length = 64 ∧ ∀ v ∈ s, 0 ≤ v ∧ v ≤ 255

structure DS.Ok (S : DS) : Prop where
  n1 : 1 ≤ S.sure.length
  n2 : S.sure.length ≤ 8192
  sure : ∀ s ∈ S.sure, Sec s
  waits : ∀ x ∈ S.waits, x.1 < S.sure.length ∧ Sec x.2
  f0 : 0 ≤ S.fuse
  f1 : S.fuse ≤ 9223372036854775807

/-- What a fuse is behind one use. -/
def dec (f : Int) : Int := if f = 0 then 0 else f - 1
theorem dec_bd {f : Int} (h0 : 0 ≤ f) (h1 : f ≤ 9223372036854775807) : 0 ≤ dec f ∧ dec f ≤ 9223372036854775807 := by
  unfold dec; split <;> omega

/-- What sector k has, d being what is sure. -/
def lastAt (k : Nat) (d : List Int) : List (Nat × List Int) → List Int
  | [] => d
  | x :: r => lastAt k (if x.1 = k then x.2 else d) r
theorem lastAt_snoc (k : Nat) : ∀ (l : List (Nat × List Int)) (d : List Int) (x : Nat × List Int), lastAt k d (l ++ [x]) = if x.1 = k then x.2 else lastAt k d l
  | [], d, x => rfl
  | y :: l, d, x => by simp only [List.cons_append, lastAt]; exact lastAt_snoc k l _ x
def DS.now (S : DS) (k : Nat) : List Int := lastAt k (S.sure.getD k []) S.waits

/-- The writes gone through. -/
def applyAll (L : List (List Int)) : List (Nat × List Int) → List (List Int)
  | [] => L
  | x :: r => applyAll (L.set x.1 x.2) r
theorem applyAll_snoc : ∀ (l : List (Nat × List Int)) (L : List (List Int)) (x : Nat × List Int), applyAll L (l ++ [x]) = (applyAll L l).set x.1 x.2
  | [], L, x => rfl
  | y :: l, L, x => by simp only [List.cons_append, applyAll]; exact applyAll_snoc l _ x
theorem applyAll_len : ∀ (l : List (Nat × List Int)) (L : List (List Int)), (applyAll L l).length = L.length
  | [], L => rfl
  | y :: l, L => by simp only [applyAll]; rw [applyAll_len l]; simp
theorem applyAll_sec : ∀ (l : List (Nat × List Int)) (L : List (List Int)), (∀ s ∈ L, Sec s) → (∀ x ∈ l, Sec x.2) → ∀ s ∈ applyAll L l, Sec s
  | [], L, h, _ => h
  | y :: l, L, h, h2 => by
    simp only [applyAll]
    refine applyAll_sec l _ (fun s hs => ?_) (fun x hx => h2 x (by simp [hx]))
    rcases List.mem_or_eq_of_mem_set hs with h3 | h3
    · exact h s h3
    · rw [h3]; exact h2 y (by simp)
/-- Behind them a sector has what it had. -/
theorem applyAll_get (k : Nat) : ∀ (l : List (Nat × List Int)) (L : List (List Int)), k < L.length → (applyAll L l).getD k [] = lastAt k (L.getD k []) l
  | [], L, _ => rfl
  | y :: l, L, hk => by
    simp only [applyAll, lastAt]
    rw [applyAll_get k l (L.set y.1 y.2) (by simpa using hk)]
    congr 1
    by_cases h : y.1 = k
    · subst h; simp [List.getD, hk]
    · simp [List.getD, h, List.getElem?_set_ne]

/-- Which words of b land on a. -/
def landW (a b : List Int) (mask : Nat) : List Int := (List.range 64).map fun j => if mask / 2 ^ (j / 8) % 2 = 1 then b.getD j 0 else a.getD j 0

/-- The k-th mask. -/
def maskAt (M : List Int) (k : Nat) : Nat := if k < M.length then (M.getD k 0).toNat else 255

/-- The writes gone through when the power is on again, from the k-th on. -/
def landAll (M : List Int) : Nat → List (List Int) → List (Nat × List Int) → List (List Int)
  | _, L, [] => L
  | k, L, x :: r => landAll M (k + 1) (L.set x.1 (landW (L.getD x.1 []) x.2 (maskAt M k))) r
theorem landAll_snoc (M : List Int) : ∀ (l : List (Nat × List Int)) (k : Nat) (L : List (List Int)) (x : Nat × List Int),
    landAll M k L (l ++ [x]) = (landAll M k L l).set x.1 (landW ((landAll M k L l).getD x.1 []) x.2 (maskAt M (k + l.length)))
  | [], k, L, x => rfl
  | y :: l, k, L, x => by
    simp only [List.cons_append, landAll]
    rw [landAll_snoc M l (k + 1)]
    simp only [List.length_cons]
    rw [show k + 1 + l.length = k + (l.length + 1) by omega]
theorem landAll_len (M : List Int) : ∀ (l : List (Nat × List Int)) (k : Nat) (L : List (List Int)), (landAll M k L l).length = L.length
  | [], _, L => rfl
  | y :: l, k, L => by simp only [landAll]; rw [landAll_len M l]; simp
theorem landW_sec {a b : List Int} (m : Nat) (ha : Sec a) (hb : Sec b) : Sec (landW a b m) := by
  refine ⟨by simp [landW], fun v hv => ?_⟩
  obtain ⟨j, hj, rfl⟩ := List.mem_map.1 hv
  have hj' := List.mem_range.1 hj
  have e1 : a.getD j 0 ∈ a := by
    have : j < a.length := by rw [ha.1]; exact hj'
    simp [List.getD, this]
  have e2 : b.getD j 0 ∈ b := by
    have : j < b.length := by rw [hb.1]; exact hj'
    simp [List.getD, this]
  split
  · exact hb.2 _ e2
  · exact ha.2 _ e1
theorem getD_mem {L : List (List Int)} {k : Nat} (h : k < L.length) : L.getD k [] ∈ L := by simp [List.getD, h]
theorem landAll_sec (M : List Int) : ∀ (l : List (Nat × List Int)) (k : Nat) (L : List (List Int)), (∀ s ∈ L, Sec s) → (∀ x ∈ l, x.1 < L.length ∧ Sec x.2) → ∀ s ∈ landAll M k L l, Sec s
  | [], _, L, h, _ => h
  | y :: l, k, L, h, h2 => by
    simp only [landAll]
    have hy := h2 y (by simp)
    refine landAll_sec M l _ _ (fun s hs => ?_) (fun x hx => by simpa using h2 x (by simp [hx]))
    rcases List.mem_or_eq_of_mem_set hs with h3 | h3
    · exact h s h3
    · rw [h3]; exact landW_sec _ (h _ (getD_mem hy.1)) hy.2
/-- All eight words. -/
theorem landW_all {a b : List Int} (hb : b.length = 64) : landW a b 255 = b := by
  apply List.ext_getElem
  · simp [landW, hb]
  · intro i h1 h2
    have hi : i < 64 := by simpa [landW] using h1
    have hm : 255 / 2 ^ (i / 8) % 2 = 1 := by
      have : i / 8 < 8 := by omega
      rcases (show i / 8 = 0 ∨ i / 8 = 1 ∨ i / 8 = 2 ∨ i / 8 = 3 ∨ i / 8 = 4 ∨ i / 8 = 5 ∨ i / 8 = 6 ∨ i / 8 = 7 by omega) with h | h | h | h | h | h | h | h <;> rw [h]
    simp [landW, hm, List.getD, h2]

/-- Write's answer, and what is behind it. -/
def DS.write (S : DS) (k : Int) (b : List Int) : Int × DS :=
  if S.off then (21, S) else if k < 0 ∨ S.sure.length ≤ k then (5, S) else if b.length ≠ 64 then (1, S)
  else if S.fuse = 1 then (20, { S with fuse := 0, off := true }) else (0, { S with fuse := dec S.fuse, waits := S.waits ++ [(k.toNat, b)] })
/-- Sync's. -/
def DS.sync (S : DS) : Int × DS :=
  if S.off then (21, S) else if S.fuse = 1 then (20, { S with fuse := 0, off := true }) else (0, { S with fuse := dec S.fuse, sure := applyAll S.sure S.waits, waits := [] })
/-- Start's. -/
def DS.start (S : DS) (M : List Int) : DS := { sure := landAll M 0 S.sure S.waits, waits := [], fuse := 0, off := false }
/-- Read's answer. -/
def DS.read (S : DS) (k : Int) : List Int × Int := if S.off then ([], 21) else if k < 0 ∨ S.sure.length ≤ k then ([], 5) else (S.now k.toNat, 0)
/-- A drum at first. -/
def DS.new (n : Nat) : DS := { sure := List.replicate n (List.replicate 64 0), waits := [], fuse := 0, off := false }

theorem DS.new_ok {n : Nat} (h1 : 1 ≤ n) (h2 : n ≤ 8192) : (DS.new n).Ok := by
  refine ⟨by simp [DS.new, h1], by simp [DS.new, h2], ?_, by simp [DS.new], by simp [DS.new], by simp [DS.new]⟩
  intro s hs
  simp [DS.new] at hs
  obtain ⟨_, rfl⟩ := hs
  exact ⟨by simp, fun v hv => by simp at hv; omega⟩
theorem DS.write_ok {S : DS} (h : S.Ok) (k : Int) {b : List Int} (hb : ∀ v ∈ b, 0 ≤ v ∧ v ≤ 255) : (S.write k b).2.Ok := by
  unfold DS.write
  split
  · exact h
  split
  · exact h
  split
  · exact h
  split
  · exact ⟨h.n1, h.n2, h.sure, h.waits, by simp, by simp⟩
  · rename_i h2 h3 _
    refine ⟨h.n1, h.n2, h.sure, fun x hx => ?_, (dec_bd h.f0 h.f1).1, (dec_bd h.f0 h.f1).2⟩
    simp only [List.mem_append, List.mem_singleton] at hx
    rcases hx with hx | rfl
    · exact h.waits x hx
    · exact ⟨by show k.toNat < S.sure.length; omega, by simpa using h3, hb⟩
theorem DS.sync_ok {S : DS} (h : S.Ok) : S.sync.2.Ok := by
  unfold DS.sync
  split
  · exact h
  split
  · exact ⟨h.n1, h.n2, h.sure, h.waits, by simp, by simp⟩
  · exact ⟨by simpa [applyAll_len] using h.n1, by simpa [applyAll_len] using h.n2, applyAll_sec _ _ h.sure (fun x hx => (h.waits x hx).2), by simp, (dec_bd h.f0 h.f1).1, (dec_bd h.f0 h.f1).2⟩
theorem DS.start_ok {S : DS} (h : S.Ok) (M : List Int) : (S.start M).Ok :=
  ⟨by simpa [DS.start, landAll_len] using h.n1, by simpa [DS.start, landAll_len] using h.n2, landAll_sec M _ _ _ h.sure h.waits, by simp [DS.start], by simp [DS.start], by simp [DS.start]⟩
theorem lastAt_sec (k : Nat) : ∀ (l : List (Nat × List Int)) (d : List Int), Sec d → (∀ x ∈ l, Sec x.2) → Sec (lastAt k d l)
  | [], d, h, _ => h
  | y :: l, d, h, h2 => by
    simp only [lastAt]
    refine lastAt_sec k l _ ?_ (fun x hx => h2 x (by simp [hx]))
    split
    · exact h2 y (by simp)
    · exact h
theorem DS.now_sec {S : DS} (h : S.Ok) {k : Nat} (hk : k < S.sure.length) : Sec (S.now k) := lastAt_sec k _ _ (h.sure _ (getD_mem hk)) (fun x hx => (h.waits x hx).2)

theorem lastAt_none (k : Nat) : ∀ (l : List (Nat × List Int)) (d : List Int), (∀ y ∈ l, y.1 ≠ k) → lastAt k d l = d
  | [], _, _ => rfl
  | y :: l, d, h => by
    simp only [lastAt]
    rw [if_neg (h y (by simp))]
    exact lastAt_none k l d (fun z hz => h z (by simp [hz]))
theorem lastAt_at (k : Nat) : ∀ (l : List (Nat × List Int)) (d : List Int) (i : Nat) (hi : i < l.length), l[i].1 = k → (∀ j, (hj : j < l.length) → i < j → l[j].1 ≠ k) → lastAt k d l = l[i].2
  | [], _, i, hi, _, _ => by simp at hi
  | y :: l, d, 0, _, h, hn => by
    simp only [lastAt]
    simp only [List.getElem_cons_zero] at h ⊢
    rw [if_pos h]
    refine lastAt_none k l _ (fun z hz => ?_)
    obtain ⟨j, hj, rfl⟩ := List.getElem_of_mem hz
    exact hn (j + 1) (by simpa using hj) (by omega)
  | y :: l, d, i + 1, hi, h, hn => by
    simp only [lastAt, List.getElem_cons_succ] at h ⊢
    exact lastAt_at k l _ i (by simpa using hi) h (fun j hj hij => hn (j + 1) (by simpa using hj) (by omega))

end Go.Proofs.YtmflhidmhefljaaDoor
end

section
namespace Go.Proofs.YtmflhidmhefljaaDoor
open Go.RowKit
set_option maxRecDepth 100000

/-- A write that waits, as cells. -/
def wrow (x : Nat × List Int) : List Value := .int .i64 (x.1 : Int) :: bys x.2
theorem wrow_len {x : Nat × List Int} (h : x.2.length = 64) : (wrow x).length = 65 := by simp [wrow, bys_length, h]
theorem wrow_one (x : Nat × List Int) : ∀ v ∈ wrow x, v.oneCell' = true := by
  intro v hv
  simp only [wrow, List.mem_cons] at hv
  rcases hv with rfl | hv
  · rfl
  · exact bys_one _ v hv

/-- The drum's own blocks. -/
def DF (p gs : Nat) (wv : Value) (k : Nat) : Prop := k = p ∨ k = gs ∨ wv.ownBlock = some k

section
variable {B : Nat} {w w' : World} {p gs : Nat} {wv : Value} {S : DS}
theorem own_blk {base : Nat} {e : TypeId} {size n : Nat} {v : Value} {xs : List Value} (h : w.ownsRow base e size v n xs) {g : Nat} (hg : v.ownBlock = some g) : ∃ cs, Blk w g e cs ∧ base ≤ g := by
  rcases h.2 with ⟨rfl, _⟩ | ⟨g', cap, cur, rfl, hb, hh, _⟩
  · cases hg
  · simp [Value.ownBlock] at hg
    subst hg
    exact ⟨cur, hh, hb⟩
theorem own_ne {base : Nat} {e t : TypeId} {size n g : Nat} {v : Value} {xs : List Value} {cs : Array Value} (h : w.ownsRow base e size v n xs) (hb : Blk w g t cs) (hne : e ≠ t) : v.ownBlock ≠ some g := by
  intro he
  obtain ⟨cs', hb', _⟩ := own_blk h he
  exact hne (hb'.inj hb).1
theorem own_fr {base : Nat} {e : TypeId} {size n : Nat} {v : Value} {xs : List Value} {F : Nat → Prop} (h : w.ownsRow base e size v n xs) (hf : Fr F w w') (hn : ∀ k, v.ownBlock = some k → ¬ F k) : w'.ownsRow base e size v n xs := by
  refine ⟨h.1, ?_⟩
  rcases h.2 with hn' | ⟨g, cap, cur, rfl, hb, hgg, rest⟩
  · exact .inl hn'
  · exact .inr ⟨g, cap, cur, rfl, hb, (hf.block g (Array.getElem?_eq_some_iff.1 hgg).1 (hn g rfl)).trans hgg, rest⟩
end

theorem own_form {base : Nat} {w : World} {e : TypeId} {size n : Nat} {v : Value} {xs : List Value} (h : w.ownsRow base e size v n xs) : ∃ A cap, v = .slice A n cap := by
  rcases h.2 with ⟨rfl, rfl⟩ | ⟨g, cap, cur, rfl, _⟩
  · exact ⟨_, _, rfl⟩
  · exact ⟨_, _, rfl⟩

/-- A sector laid over what is sure. -/
theorem splice_sec (L : List (List Int)) (hL : ∀ s ∈ L, s.length = 64) (k : Nat) (hk : k < L.length) (b : List Int) (hb : b.length = 64) : splice (bys L.flatten).toArray (k * 64) (bys b) = (bys (L.set k b).flatten).toArray := by
  unfold splice
  rw [bys_length, hb, bys_take, bys_drop, ← bys_app, ← bys_app, flat_splice 64 L hL k hk b hb]

end Go.Proofs.YtmflhidmhefljaaDoor
end
