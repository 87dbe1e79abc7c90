/-
  The document's drum in memory; its fails and New.
-/
import Derived.Test.YtohadeijmmmcdaaApartW
namespace Go.Proofs.Ytohadeijmmmcdaa
open Go.RowKit
attribute [local go_sem ↓] APs_of

/-- The slice v holds the sector s, in a block of its own. -/
def RB (B : Nat) (w : World) (v : Value) (s : List Int) : Prop := ∃ g c cs, v = .slice (some ⟨g, 0, none⟩) 64 c ∧ B ≤ g ∧ Blk w g 5 cs ∧ cs.toList.take 64 = bys s ∧ s.length = 64
/-- The row of slices ls holds the sectors L. -/
def RBs (B : Nat) (w : World) (ls : List Value) (L : List (List Int)) : Prop := ls.length = L.length ∧ ∀ i, (h : i < ls.length) → (h' : i < L.length) → RB B w ls[i] L[i]
/-- A write that waits, as cells. -/
def rrow (x : Nat × Value) : List Value := [.int .i64 (x.1 : Int), x.2]
/-- The row of writes ws holds the writes W. -/
def RWs (B : Nat) (w : World) (ws : List (Nat × Value)) (W : List (Nat × List Int)) : Prop := ws.length = W.length ∧ ∀ i, (h : i < ws.length) → (h' : i < W.length) → ws[i].1 = W[i].1 ∧ RB B w ws[i].2 W[i].2

/-- The document's drum S lies at q. -/
structure IsRef (B : Nat) (w : World) (q : Nat) (lv wv : Value) (ls : List Value) (ws : List (Nat × Value)) (S : DS) : Prop where
  ok : S.Ok
  b1 : B ≤ q
  st : Blk w q 50 #[lv, wv, .int .i64 S.fuse, .bool S.off]
  l : w.ownsRow B 26 1 lv S.sure.length ls
  ll : RBs B w ls S.sure
  w_ : w.ownsRow B 66 2 wv S.waits.length (ws.map rrow).flatten
  ww : RWs B w ws S.waits

/-- Its own blocks, that may turn. -/
def RF (q : Nat) (lv wv : Value) (k : Nat) : Prop := k = q ∨ lv.ownBlock = some k ∨ wv.ownBlock = some k

theorem RB.fr {B : Nat} {w w' : World} {F : Nat → Prop} {v : Value} {s : List Int} (h : RB B w v s) (hf : Fr F w w') (hn : ∀ k cs, Blk w k 5 cs → ¬ F k) : RB B w' v s := by
  obtain ⟨g, c, cs, e, hb, hblk, ht⟩ := h
  exact ⟨g, c, cs, e, hb, hblk.fr hf (hn g cs hblk), ht⟩
theorem RBs.fr {B : Nat} {w w' : World} {F : Nat → Prop} {ls : List Value} {L : List (List Int)} (h : RBs B w ls L) (hf : Fr F w w') (hn : ∀ k cs, Blk w k 5 cs → ¬ F k) : RBs B w' ls L :=
  ⟨h.1, fun i h1 h2 => (h.2 i h1 h2).fr hf hn⟩
theorem RWs.fr {B : Nat} {w w' : World} {F : Nat → Prop} {ws : List (Nat × Value)} {W : List (Nat × List Int)} (h : RWs B w ws W) (hf : Fr F w w') (hn : ∀ k cs, Blk w k 5 cs → ¬ F k) : RWs B w' ws W :=
  ⟨h.1, fun i h1 h2 => ⟨(h.2 i h1 h2).1, (h.2 i h1 h2).2.fr hf hn⟩⟩

/-- Each block of F is of a type of ts. -/
def Typed (w : World) (F : Nat → Prop) (ts : List TypeId) : Prop := ∀ k, F k → ∃ t cs, Blk w k t cs ∧ t ∈ ts

theorem IsDrum.typed {B : Nat} {w : World} {p gs : Nat} {wv : Value} {S : DS} (h : IsDrum B w p gs wv S) : Typed w (DF p gs wv) [57, 60, 62] := by
  intro k hk
  rcases hk with rfl | rfl | hk
  · exact ⟨_, _, h.st, by simp⟩
  · exact ⟨_, _, h.sure, by simp⟩
  · obtain ⟨cs, hb, _⟩ := own_blk h.waits hk
    exact ⟨_, _, hb, by simp⟩
section
variable {B : Nat} {w w' : World} {q : Nat} {lv wv : Value} {ls : List Value} {ws : List (Nat × Value)} {S : DS}
theorem IsRef.typed (h : IsRef B w q lv wv ls ws S) : Typed w (RF q lv wv) [50, 26, 66] := by
  intro k hk
  rcases hk with rfl | hk | hk
  · exact ⟨_, _, h.st, by simp⟩
  · obtain ⟨cs, hb, _⟩ := own_blk h.l hk
    exact ⟨_, _, hb, by simp⟩
  · obtain ⟨cs, hb, _⟩ := own_blk h.w_ hk
    exact ⟨_, _, hb, by simp⟩
theorem typed_not {F : Nat → Prop} {ts : List TypeId} (h : Typed w F ts) {k : Nat} {t : TypeId} {cs : Array Value} (hb : Blk w k t cs) (ht : t ∉ ts) : ¬ F k := fun hk => by
  obtain ⟨t', cs', hb', ht'⟩ := h k hk
  exact ht ((hb.inj hb').1 ▸ ht')
/-- The document's drum, while blocks of other types turn. -/
theorem IsRef.fr {F : Nat → Prop} {ts : List TypeId} (h : IsRef B w q lv wv ls ws S) (hf : Fr F w w') (ht : Typed w F ts) (h1 : 50 ∉ ts) (h2 : 26 ∉ ts) (h3 : 66 ∉ ts) (h4 : 5 ∉ ts) : IsRef B w' q lv wv ls ws S :=
  ⟨h.ok, h.b1, h.st.fr hf (typed_not ht h.st h1), own_fr h.l hf (fun k hk => by obtain ⟨cs, hb, _⟩ := own_blk h.l hk; exact typed_not ht hb h2),
   h.ll.fr hf (fun k cs hb => typed_not ht hb h4), own_fr h.w_ hf (fun k hk => by obtain ⟨cs, hb, _⟩ := own_blk h.w_ hk; exact typed_not ht hb h3), h.ww.fr hf (fun k cs hb => typed_not ht hb h4)⟩
theorem IsRef.ne_q (h : IsRef B w q lv wv ls ws S) : lv.ownBlock ≠ some q ∧ wv.ownBlock ≠ some q := ⟨own_ne h.l h.st (by decide), own_ne h.w_ h.st (by decide)⟩
theorem IsRef.lt (h : IsRef B w q lv wv ls ws S) {k : Nat} (hk : RF q lv wv k) : B ≤ k ∧ k < w.heap.size := by
  rcases hk with rfl | hk | hk
  · exact ⟨h.b1, h.st.lt⟩
  · exact h.l.lt k hk
  · exact h.w_.lt k hk
theorem IsRef.nofr (h : IsRef B w q lv wv ls ws S) (hf : Fr (fun _ => False) w w') : IsRef B w' q lv wv ls ws S :=
  h.fr (ts := []) hf (fun k f => f.elim) (by simp) (by simp) (by simp) (by simp)
end

theorem fails_go (q : Nat) (lv wv : Value) (fuse : Int) (w : World) (h : Blk w q 50 #[lv, wv, .int .i64 fuse, .bool false]) (hf : fuse ≠ 1) (h0 : 0 ≤ fuse) (h1 : fuse ≤ 9223372036854775807) :
    Calls Try.prog 29 #[.pointer (some ⟨q, 0, none⟩)] w fun e w' => e = .returned (.bool false) ∧ Blk w' q 50 #[lv, wv, .int .i64 (dec fuse), .bool false] ∧ Fr (fun k => k = q) w w' := by
  have c2 : w.cell? ⟨q, 2, none⟩ = some (.int .i64 fuse) := h.cell 2
  have f2 := h.frozen 2
  have H := Lib.hid h
  clear h
  by_cases hz : fuse = 0
  · subst hz
    go_enter Try.func29, Try.ntmps29
    go_wp2
    go_ret
    exact ⟨rfl, H.out, Fr.refl _ _⟩
  · have z1 : decide (fuse < 1) = false := by simp; omega
    have z2 : (fuse - 1 == 0) = false := by simp; omega
    have e : dec fuse = fuse - 1 := by unfold dec; rw [if_neg hz]
    rw [e]
    clear hf hz e
    go_enter Try.func29, Try.ntmps29
    go_wp2
    go_ret
    exact ⟨rfl, by simpa using H.out.set_ 2 (.int .i64 (fuse - 1)), (Fr.refl (fun k => k = q) w).setCell (p := ⟨q, 2, none⟩) (fun _ => rfl) _⟩

theorem fails_one (q : Nat) (lv wv : Value) (w : World) (h : Blk w q 50 #[lv, wv, .int .i64 1, .bool false]) :
    Calls Try.prog 29 #[.pointer (some ⟨q, 0, none⟩)] w fun e w' => e = .returned (.bool true) ∧ Blk w' q 50 #[lv, wv, .int .i64 0, .bool true] ∧ Fr (fun k => k = q) w w' := by
  have c2 : w.cell? ⟨q, 2, none⟩ = some (.int .i64 1) := h.cell 2
  have c3 : w.cell? ⟨q, 3, none⟩ = some (.bool false) := h.cell 3
  have f2 := h.frozen 2
  have f3 := h.frozen 3
  have H := Lib.hid h
  clear h
  go_enter Try.func29, Try.ntmps29
  go_wp2
  go_ret
  exact ⟨rfl, by simpa using (H.out.set_ 2 (.int .i64 0)).set_ 3 (.bool true), ((Fr.refl (fun k => k = q) w).setCell (p := ⟨q, 2, none⟩) (fun _ => rfl) _).setCell (p := ⟨q, 3, none⟩) (fun _ => rfl) _⟩

end Go.Proofs.Ytohadeijmmmcdaa
