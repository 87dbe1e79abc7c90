/-
  DrumApart: what is so of two drums, plainly.
-/
import Derived.Test.YtohadeijmmmcdaaOpen
namespace Go.Proofs.Ytohadeijmmmcdaa
open Go.RowKit

theorem own_mono {base base' : Nat} {w : World} {e : TypeId} {size n : Nat} {v : Value} {xs : List Value} (h : w.ownsRow base e size v n xs) (hb : base' ≤ base) : w.ownsRow base' e size v n xs := by
  refine ⟨h.1, ?_⟩
  rcases h.2 with h0 | ⟨g, cap, cur, hv, hg, rest⟩
  · exact .inl h0
  · exact .inr ⟨g, cap, cur, hv, by omega, rest⟩
theorem IsDrum.mono {B B' : Nat} {w : World} {p gs : Nat} {wv : Value} {S : DS} (h : IsDrum B w p gs wv S) (hb : B' ≤ B) : IsDrum B' w p gs wv S :=
  ⟨h.ok, Nat.le_trans hb h.b1, Nat.le_trans hb h.b2, h.st, h.sure, own_mono h.waits hb⟩

/-- A drum that is on, without a fuse. -/
structure Calm (S : DS) : Prop where
  off : S.off = false
  fuse : S.fuse = 0

theorem now_write {S : DS} (h : Calm S) {k : Nat} (hk : k < S.sure.length) {b : List Int} (hb : b.length = 64) (j : Nat) :
    (S.write k b).1 = 0 ∧ Calm (S.write k b).2 ∧ (S.write k b).2.sure.length = S.sure.length ∧ (S.write k b).2.waits.length = S.waits.length + 1 ∧ (S.write k b).2.now j = if k = j then b else S.now j := by
  have e : S.write k b = (0, { S with fuse := 0, waits := S.waits ++ [(k, b)] }) := by
    have hf : ¬ S.fuse = 1 := by rw [h.fuse]; decide
    have hd : dec S.fuse = 0 := by rw [h.fuse]; rfl
    simp [DS.write, h.off, hb, hf, hd, hk]
  rw [e]
  exact ⟨rfl, ⟨h.off, rfl⟩, rfl, by simp, by simp [DS.now, lastAt_snoc]⟩
theorem now_sync {S : DS} (h : Calm S) {j : Nat} (hj : j < S.sure.length) : S.sync.1 = 0 ∧ Calm S.sync.2 ∧ S.sync.2.sure.length = S.sure.length ∧ S.sync.2.waits.length = 0 ∧ S.sync.2.now j = S.now j := by
  have e : S.sync = (0, { S with fuse := 0, sure := applyAll S.sure S.waits, waits := [] }) := by
    have hf : ¬ S.fuse = 1 := by rw [h.fuse]; decide
    have hd : dec S.fuse = 0 := by rw [h.fuse]; rfl
    simp [DS.sync, h.off, hf, hd]
  rw [e]
  refine ⟨rfl, ⟨h.off, rfl⟩, by simp [applyAll_len], rfl, ?_⟩
  show lastAt j ((applyAll S.sure S.waits).getD j []) [] = _
  rw [applyAll_get j _ _ hj]
  rfl
theorem landAll_nil : ∀ (l : List (Nat × List Int)) (k : Nat) (L : List (List Int)), (∀ x ∈ l, x.2.length = 64) → landAll [] k L l = applyAll L l
  | [], _, _, _ => rfl
  | y :: l, k, L, h => by
    simp only [landAll, applyAll]
    rw [show maskAt [] k = 255 by simp [maskAt], landW_all (h y (by simp))]
    exact landAll_nil l (k + 1) _ (fun x hx => h x (by simp [hx]))
theorem now_start {S : DS} (hok : S.Ok) {j : Nat} (hj : j < S.sure.length) : Calm (S.start []) ∧ (S.start []).sure.length = S.sure.length ∧ (S.start []).waits.length = 0 ∧ (S.start []).now j = S.now j := by
  refine ⟨⟨rfl, rfl⟩, by simp [DS.start, landAll_len], rfl, ?_⟩
  show lastAt j ((landAll [] 0 S.sure S.waits).getD j []) [] = _
  rw [landAll_nil _ _ _ (fun x hx => (hok.waits x hx).2.1), applyAll_get j _ _ hj]
  rfl

/-- What is so of the two drums behind i acts. -/
structure AP (i : Nat) (D O : DS) : Prop where
  d : Calm D
  o : Calm O
  nd : D.sure.length = 6
  no_ : O.sure.length = 6
  wd : D.waits.length ≤ i
  wo : O.waits.length ≤ i
  same : D.now 4 = O.now 4
  three : O.now 3 = List.replicate 64 0

theorem ap_skip {i : Nat} {D O : DS} (h : AP i D O) : AP (i + 1) D O := ⟨h.d, h.o, h.nd, h.no_, by have := h.wd; omega, by have := h.wo; omega, h.same, h.three⟩
theorem ap_four {i : Nat} {D O : DS} (h : AP i D O) {b : List Int} (hb : b.length = 64) : (D.write (4 : Nat) b).1 = 0 ∧ (O.write (4 : Nat) b).1 = 0 ∧ AP (i + 1) (D.write (4 : Nat) b).2 (O.write (4 : Nat) b).2 := by
  obtain ⟨d1, d2, d3, d4, d5⟩ := now_write h.d (k := 4) (by rw [h.nd]; omega) hb 4
  obtain ⟨o1, o2, o3, o4, o5⟩ := now_write h.o (k := 4) (by rw [h.no_]; omega) hb 4
  obtain ⟨_, _, _, _, o6⟩ := now_write h.o (k := 4) (by rw [h.no_]; omega) hb 3
  refine ⟨d1, o1, ⟨d2, o2, by rw [d3, h.nd], by rw [o3, h.no_], by rw [d4]; have := h.wd; omega, by rw [o4]; have := h.wo; omega, ?_, ?_⟩⟩
  · rw [d5, o5]; simp
  · rw [o6]; simpa using h.three
theorem ap_other {i : Nat} {D O : DS} (h : AP i D O) {b : List Int} (hb : b.length = 64) {k : Nat} (hk : k < 6) (h4 : k ≠ 4) : (D.write k b).1 = 0 ∧ AP (i + 1) (D.write k b).2 O := by
  obtain ⟨d1, d2, d3, d4, d5⟩ := now_write h.d (k := k) (by rw [h.nd]; omega) hb 4
  refine ⟨d1, ⟨d2, h.o, by rw [d3, h.nd], h.no_, by rw [d4]; have := h.wd; omega, by have := h.wo; omega, ?_, h.three⟩⟩
  rw [d5, if_neg h4]
  exact h.same
theorem ap_sync {i : Nat} {D O : DS} (h : AP i D O) : AP (i + 1) D.sync.2 O.sync.2 := by
  obtain ⟨_, d2, d3, d4, d5⟩ := now_sync h.d (j := 4) (by rw [h.nd]; omega)
  obtain ⟨_, o2, o3, o4, o5⟩ := now_sync h.o (j := 4) (by rw [h.no_]; omega)
  obtain ⟨_, _, _, _, o6⟩ := now_sync h.o (j := 3) (by rw [h.no_]; omega)
  exact ⟨d2, o2, by rw [d3, h.nd], by rw [o3, h.no_], by omega, by omega, by rw [d5, o5, h.same], by rw [o6, h.three]⟩
theorem ap_start {i : Nat} {D O : DS} (h : AP i D O) (hd : D.Ok) (ho : O.Ok) : AP (i + 1) (D.start []) (O.start []) := by
  obtain ⟨d2, d3, d4, d5⟩ := now_start hd (j := 4) (by rw [h.nd]; omega)
  obtain ⟨o2, o3, o4, o5⟩ := now_start ho (j := 4) (by rw [h.no_]; omega)
  obtain ⟨_, _, _, o6⟩ := now_start ho (j := 3) (by rw [h.no_]; omega)
  exact ⟨d2, o2, by rw [d3, h.nd], by rw [o3, h.no_], by omega, by omega, by rw [d5, o5, h.same], by rw [o6, h.three]⟩

/-- Two drums that share no block, over B. -/
structure Two (B : Nat) (w w' : World) (p q gp gq : Nat) (D O : DS) (v u : Value) : Prop where
  d : IsDrum B w' p gp v D
  o : IsDrum B w' q gq u O
  sep : ∀ k, DF p gp v k → ¬ DF q gq u k
  bel : Below B w w'
theorem Two.fr {B : Nat} {w w1 w2 : World} {p q gp gq : Nat} {D O : DS} {v u : Value} (h : Two B w w1 p q gp gq D O v u) (hb : Below w1.heap.size w1 w2) (hB : B ≤ w1.heap.size) : Two B w w2 p q gp gq D O v u :=
  ⟨h.d.fr (Fr.of_below hb) (fun k hk hf => by have := (h.d.lt hk).2; omega), h.o.fr (Fr.of_below hb) (fun k hk hf => by have := (h.o.lt hk).2; omega), h.sep, h.bel.trans (hb.mono hB)⟩
theorem Two.left {B : Nat} {w w1 w2 : World} {p q gp gq : Nat} {D O D' : DS} {v u v' : Value} (h : Two B w w1 p q gp gq D O v u) (hB : B ≤ w1.heap.size) (hd : IsDrum B w2 p gp v' D') (hft : Foot w1 v v') (hf : Fr (DF p gp v) w1 w2) : Two B w w2 p q gp gq D' O v' u :=
  ⟨hd, h.o.fr hf (fun k hk hk' => h.sep k hk' hk), fun k hk hk' => by
    have hlt := (h.o.lt hk').2
    rcases hk with e | e | e
    · exact h.sep k (.inl e) hk'
    · exact h.sep k (.inr (.inl e)) hk'
    · rcases hft k e with e' | e'
      · exact h.sep k (.inr (.inr e')) hk'
      · omega, h.bel.trans (h.d.below hf (Nat.le_refl _) hB)⟩
theorem Two.swap {B : Nat} {w w1 : World} {p q gp gq : Nat} {D O : DS} {v u : Value} (h : Two B w w1 p q gp gq D O v u) : Two B w w1 q p gq gp O D u v := ⟨h.o, h.d, fun k h1 h2 => h.sep k h2 h1, h.bel⟩
theorem Two.right {B : Nat} {w w1 w2 : World} {p q gp gq : Nat} {D O O' : DS} {v u u' : Value} (h : Two B w w1 p q gp gq D O v u) (hB : B ≤ w1.heap.size) (hd : IsDrum B w2 q gq u' O') (hft : Foot w1 u u') (hf : Fr (DF q gq u) w1 w2) : Two B w w2 p q gp gq D O' v u' :=
  (h.swap.left hB hd hft hf).swap

end Go.Proofs.Ytohadeijmmmcdaa
