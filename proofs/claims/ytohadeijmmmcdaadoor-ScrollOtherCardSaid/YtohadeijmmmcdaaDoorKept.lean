/-
  What is kept while a drum, and a scroll, are worked on: all blocks of other types, and all old ones.
-/
import Derived.Test.YtohadeijmmmcdaaDoorScanC
namespace Go.Proofs.YtohadeijmmmcdaaDoor
open Go.RowKit
set_option maxRecDepth 100000

/-- All blocks below n₀ are kept, and all blocks whose type isn't one of ts. -/
structure Kept (n₀ : Nat) (ts : List TypeId) (w w' : World) : Prop where
  below : Below n₀ w w'
  kt : ∀ k t cs, Blk w k t cs → t ∉ ts → Blk w' k t cs

/-- The drum's types. -/
def dts : List TypeId := [108, 119, 121]
/-- The drum's, and the scroll's. -/
def sts : List TypeId := [108, 119, 121, 111]

section
variable {n₀ : Nat} {ts us : List TypeId} {w w1 w2 : World}
theorem Kept.refl (n₀ : Nat) (ts : List TypeId) (w : World) : Kept n₀ ts w w := ⟨Below.refl _ _, fun _ _ _ h _ => h⟩
theorem Kept.trans (h : Kept n₀ ts w w1) (h' : Kept n₀ ts w1 w2) : Kept n₀ ts w w2 := ⟨h.below.trans h'.below, fun k t cs hb ht => h'.kt k t cs (h.kt k t cs hb ht) ht⟩
theorem Kept.mono (h : Kept n₀ ts w w1) (hs : ∀ t, t ∈ ts → t ∈ us) : Kept n₀ us w w1 := ⟨h.below, fun k t cs hb ht => h.kt k t cs hb (fun e => ht (hs t e))⟩
theorem Kept.of_below (h : Below w.heap.size w w1) (hn : n₀ ≤ w.heap.size) : Kept n₀ ts w w1 := ⟨h.mono hn, fun _ _ _ hb _ => hb.fr (Fr.of_below h) (by have := hb.lt; omega)⟩
theorem Kept.of_fr {F : Nat → Prop} (hf : Fr F w w1) (hn : n₀ ≤ w.heap.size) (h0 : ∀ k, k < n₀ → ¬ F k) (hF : ∀ k t cs, F k → Blk w k t cs → t ∈ ts) : Kept n₀ ts w w1 :=
  ⟨hf.below hn h0, fun k t cs hb ht => hb.fr hf (fun f => ht (hF k t cs f hb))⟩
theorem Kept.size (h : Kept n₀ ts w w1) : w.heap.size ≤ w1.heap.size := h.below.size
theorem Kept.own {B : Nat} {e : TypeId} {size n : Nat} {v : Value} {xs : List Value} (h : Kept n₀ ts w w1) (ho : w.ownsRow B e size v n xs) (he : e ∉ ts) : w1.ownsRow B e size v n xs := by
  obtain ⟨h1, ⟨rfl, h2⟩ | ⟨g, cap, cur, rfl, hg, hh, hr⟩⟩ := ho
  · exact ⟨h1, .inl ⟨rfl, h2⟩⟩
  · exact ⟨h1, .inr ⟨g, cap, cur, rfl, hg, h.kt g e cur hh he, hr⟩⟩
theorem Kept.own8 {B : Nat} {v : Value} {l : List Int} (h : Kept n₀ ts w w1) (ho : Own8 B w v l) (he : 5 ∉ ts) : Own8 B w1 v l := h.own ho he
theorem Kept.ownT {B : Nat} {v : Value} {L : List (List Int)} (h : Kept n₀ ts w w1) (ho : OwnT B w v L) (h1 : 22 ∉ ts) (h2 : 5 ∉ ts) : OwnT B w1 v L := by
  obtain ⟨xs, a, b, c⟩ := ho
  exact ⟨xs, h.own a h1, b, fun i hi hi' => h.own8 (c i hi hi') h2⟩
theorem Kept.drum {B p gs : Nat} {wv : Value} {S : DS} (h : Kept n₀ ts w w1) (hd : IsDrum B w p gs wv S) (h1 : 108 ∉ ts) (h2 : 119 ∉ ts) (h3 : 121 ∉ ts) : IsDrum B w1 p gs wv S :=
  ⟨hd.ok, hd.b1, hd.b2, h.kt _ _ _ hd.st h1, h.kt _ _ _ hd.sure h2, h.own hd.waits h3⟩
/-- A drum, while no old block turns that it has. -/
theorem Kept.drum_below {B p gs : Nat} {wv : Value} {S : DS} (hb : Below w.heap.size w w1) (hd : IsDrum B w p gs wv S) : IsDrum B w1 p gs wv S :=
  hd.fr (Fr.of_below hb) (fun k hk h => by have := (hd.lt hk).2; omega)
theorem Kept.of_drum {B p gs : Nat} {wv : Value} {S : DS} (h : IsDrum B w p gs wv S) (hf : Fr (DF p gs wv) w w1) : Kept B dts w w1 :=
  Kept.of_fr hf (by have := (h.lt (.inl rfl)); omega) (fun k hk f => by have := (h.lt f).1; omega) (fun k t cs f hb => by
    rcases f with rfl | rfl | f
    · rw [(hb.inj h.st).1]; simp [dts]
    · rw [(hb.inj h.sure).1]; simp [dts]
    · obtain ⟨cs', hb', _⟩ := own_blk h.waits f
      rw [(hb.inj hb').1]; simp [dts])
theorem Kept.glob (h : Kept n₀ ts w w1) (hg : Glob w) (h2 : 2 ≤ n₀) : Glob w1 := hg.fr (Fr.of_below h.below) (by omega) (by omega)
end

end Go.Proofs.YtohadeijmmmcdaaDoor
