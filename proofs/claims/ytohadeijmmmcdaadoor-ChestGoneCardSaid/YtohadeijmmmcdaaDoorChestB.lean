/-
  A chest: fresh, Sync, Head, Keep.
-/
import Derived.Test.YtohadeijmmmcdaaDoorChestA
import Derived.Test.YtohadeijmmmcdaaDoorTxtJ
import Derived.Test.YtohadeijmmmcdaaDoorNotes
namespace Go.Proofs.YtohadeijmmmcdaaDoor
open Go.RowKit
set_option maxRecDepth 100000
attribute [local go_sem ↓] bd70_of bd72_of

/-- A chest. -/
structure CS where
  sd : Nat
  t : Nat
  h : List Int
  l : List (List Int)
  gone : Bool

def ChestB (w : World) (r q p : Nat) (x : CS) (hv nv : Value) : Prop :=
  Blk w r 72 #[.pointer (some ⟨q, 0, none⟩), .pointer (some ⟨p, 0, none⟩), .int .i64 (x.sd : Int), .int .i64 (x.t : Int), hv, nv, .bool x.gone]
structure IsChest (B : Nat) (w : World) (r q p : Nat) (x : CS) (hv nv : Value) : Prop where
  st : ChestB w r q p x hv nv
  br : B ≤ r
  bq : B ≤ q
  hd : Own8 B w hv x.h
  nt : NT B w nv x.l
  hb : ∀ y ∈ x.h, 0 ≤ y ∧ y ≤ 255
  nb : ∀ l ∈ x.l, ∀ y ∈ l, 0 ≤ y ∧ y ≤ 255

def FreshPost (n₀ p : Nat) (R : Int × SS × DS) (e : Ending) (w' : World) : Prop :=
  (R.1 = 0 ∧ ∃ r q, e = .returned (.tuple #[.pointer (some ⟨r, 0, none⟩), .int .i64 0]) ∧ IsScroll w' q p R.2.1 ∧ IsChest n₀ w' r q p ⟨0, 1, [], [], false⟩ (.slice none 0 0) (.slice none 0 0)) ∨ (R.1 ≠ 0 ∧ e = .returned (.tuple #[.pointer none, .int .i64 R.1]))

set_option maxHeartbeats 4000000 in
theorem fresh_any (B p gs : Nat) (wv : Value) (S : DS) (w : World) (hd : IsDrum B w p gs wv S) (hlen : S.waits.length + 10000 ≤ 1000000000) (hg : Glob w) (h2 : 2 ≤ B) :
    Calls Tryd.prog 74 #[.pointer (some ⟨p, 0, none⟩)] w fun e w' =>
      FreshPost w.heap.size p (beginR S 0 1 []) e w' ∧ (∃ wv', IsDrum B w' p gs wv' (beginR S 0 1 []).2.2) ∧ Kept B sts w w' := by
  have hBw : B ≤ w.heap.size := by have := hd.lt (.inl rfl); omega
  have hbe := begin_any B p gs wv S 0 1 none 0 (fun _ => rfl) [] w hd (by omega) (by omega) hlen (fun W hk => ⟨fun h => by simp at h, fun x hx => by cases hx⟩) (by simp) hg h2
  obtain ⟨⟨er, s, T⟩, hE⟩ : ∃ E, beginR S 0 1 [] = E := ⟨_, rfl⟩
  rw [hE] at hbe ⊢
  rw [show ((0 : Nat) : Int) = 0 from rfl, show ((1 : Nat) : Int) = 1 from rfl, show ([] : List Int).length = 0 from rfl] at hbe
  simp only at hbe ⊢
  clear hd hg hE
  go_enter Tryd.func74, Tryd.ntmps74
  go_wp2_with fail
  with_reducible refine hbe.mono ?_
  rintro e w1 ⟨hp1, ⟨wv1, hd1⟩, hk1⟩
  have K1 := Lib.hid hk1
  have HD1 := Lib.hid hd1
  have hs1 := hk1.size
  clear hbe hk1 hd1
  rcases hp1 with ⟨he, q, rfl, hs1, hq⟩ | ⟨he, rfl⟩
  · simp only at he
    subst he
    have HS := Lib.hid hs1
    clear hs1
    have hb1 := bd70_1 (some ⟨q, 0, none⟩)
    have hb2 := bd72_3 (some ⟨q, 0, none⟩) (some ⟨p, 0, none⟩)
    go_wp2_with fail
    go_ret2
    refine ⟨.inl ⟨rfl, _, q, rfl, HS.out.alloc _, Blk.new _ _ _, by omega, by omega, World.ownsRow_nil _ _ _ _, NT.nil _ _, (fun y hy => by cases hy), (fun y hy => by cases hy)⟩, ⟨wv1, HD1.out.fr (F := fun _ => False) ((Fr.refl _ _).alloc _) (fun _ _ h => h)⟩, K1.out.trans (Kept.of_below ((Below.refl _ _).alloc (Nat.le_refl _) _) (by omega))⟩
  · have h0' := Lib.hid he
    have hI : (er != 0) = true := by simpa using he
    clear he
    go_wp2_with fail
    go_ret2
    exact ⟨.inr ⟨h0'.out, rfl⟩, ⟨wv1, HD1.out⟩, K1.out⟩

/-- The types that a chest's doing changes (but the notes' row). -/
def cts : List TypeId := 72 :: sts
/-- All blocks of other types are kept, but the notes' row. -/
structure KeptC (B : Nat) (nv : Value) (w w' : World) : Prop where
  below : Below B w w'
  kt : ∀ k t cs, Blk w k t cs → t ∉ cts → nv.ownBlock ≠ some k → Blk w' k t cs

section
variable {B : Nat} {nv nv1 : Value} {w w1 w2 : World}
theorem KeptC.of {ts : List TypeId} (h : Kept B ts w w1) (ht : ∀ t, t ∈ ts → t ∈ cts) : KeptC B nv w w1 := ⟨h.below, fun k t cs hb hn _ => h.kt k t cs hb (fun e => hn (ht t e))⟩
theorem KeptC.sts (h : Kept B sts w w1) : KeptC B nv w w1 := .of h (fun _t ht => List.mem_cons_of_mem _ ht)
theorem KeptC.trans (h : KeptC B nv w w1) (h' : KeptC B nv1 w1 w2) (hn : ∀ k, nv1.ownBlock = some k → nv.ownBlock = some k ∨ w.heap.size ≤ k) : KeptC B nv w w2 :=
  ⟨h.below.trans h'.below, fun k t cs hb ht hk => h'.kt k t cs (h.kt k t cs hb ht hk) ht (fun e => (hn k e).elim hk (fun hl => by have := hb.lt; omega))⟩
theorem KeptC.size (h : KeptC B nv w w1) : w.heap.size ≤ w1.heap.size := h.below.size
end

/-- Sync's answer. -/
def csyncR (x : CS) (s : SS) (S : DS) : Int × CS × SS × DS := if x.gone = true then (20, x, s, S) else ((syncR s S).1, { x with gone := (syncR s S).1 != 0 }, (syncR s S).2.1, (syncR s S).2.2)

theorem IsChest.kept {B r q p : Nat} {w w' : World} {x : CS} {hv nv : Value} (h : IsChest B w r q p x hv nv) (hk : Kept B sts w w') : IsChest B w' r q p x hv nv :=
  ⟨hk.kt _ _ _ h.st (by decide), h.br, h.bq, hk.own8 h.hd (by decide), hk.nt h.nt (by decide) (by decide), h.hb, h.nb⟩

/-- A store to a field of a chest. -/
theorem ChestB.set {B r q q' p gs : Nat} {w : World} {x x' : CS} {hv nv hv' nv' wv : Value} {S : DS} (st : ChestB w r q p x hv nv) (hbr : B ≤ r) (hd : IsDrum B w p gs wv S) (i : Nat) (v : Value)
    (e : (#[.pointer (some ⟨q, 0, none⟩), .pointer (some ⟨p, 0, none⟩), .int .i64 (x.sd : Int), .int .i64 (x.t : Int), hv, nv, .bool x.gone] : Array Value).setIfInBounds i v =
      #[.pointer (some ⟨q', 0, none⟩), .pointer (some ⟨p, 0, none⟩), .int .i64 (x'.sd : Int), .int .i64 (x'.t : Int), hv', nv', .bool x'.gone])
    (hq : B ≤ q') (h1 : Own8 B w hv' x'.h) (h2 : NT B w nv' x'.l) (h3 : ∀ y ∈ x'.h, 0 ≤ y ∧ y ≤ 255) (h4 : ∀ l ∈ x'.l, ∀ y ∈ l, 0 ≤ y ∧ y ≤ 255) :
    IsChest B (w.setCell ⟨r, i, none⟩ v) r q' p x' hv' nv' ∧ (∀ q0 s0, IsScroll w q0 p s0 → IsScroll (w.setCell ⟨r, i, none⟩ v) q0 p s0) ∧ IsDrum B (w.setCell ⟨r, i, none⟩ v) p gs wv S ∧ Kept B cts w (w.setCell ⟨r, i, none⟩ v) := by
  have hf : Fr (fun k => k = r) w (w.setCell ⟨r, i, none⟩ v) := (Fr.refl (fun k => k = r) w).setCell (p := ⟨r, i, none⟩) (fun _ => rfl) _
  refine ⟨⟨?_, hbr, hq, h1.fr hf (fun k hk f => own_ne h1 st (by decide) (f ▸ hk)), h2.fr hf (fun k t cs f hb => ?_), h3, h4⟩, fun q0 s0 hs => Blk.fr hs hf (fun f => (Blk.ne_ hs st (by decide)) f), hd.fr hf (fun k hk f => ?_), Kept.of_fr hf (by have := hd.lt (.inl rfl); omega) (fun k hk f => by omega) (fun k t cs f hb => ?_)⟩
  · have := st.set_ i v
    rw [e] at this
    exact this
  · subst f
    rw [(hb.inj st).1]
    exact ⟨by decide, by decide⟩
  · subst f
    rcases hk with e | e | e
    · exact st.ne_ hd.st (by decide) e
    · exact st.ne_ hd.sure (by decide) e
    · exact own_ne hd.waits st (by decide) e
  · subst f
    rw [(hb.inj st).1]
    exact List.mem_cons_self

theorem IsChest.set {B r q q' p gs : Nat} {w : World} {x x' : CS} {hv nv hv' nv' wv : Value} {S : DS} (h : IsChest B w r q p x hv nv) (hd : IsDrum B w p gs wv S) (i : Nat) (v : Value)
    (e : (#[.pointer (some ⟨q, 0, none⟩), .pointer (some ⟨p, 0, none⟩), .int .i64 (x.sd : Int), .int .i64 (x.t : Int), hv, nv, .bool x.gone] : Array Value).setIfInBounds i v =
      #[.pointer (some ⟨q', 0, none⟩), .pointer (some ⟨p, 0, none⟩), .int .i64 (x'.sd : Int), .int .i64 (x'.t : Int), hv', nv', .bool x'.gone])
    (hq : B ≤ q') (h1 : Own8 B w hv' x'.h) (h2 : NT B w nv' x'.l) (h3 : ∀ y ∈ x'.h, 0 ≤ y ∧ y ≤ 255) (h4 : ∀ l ∈ x'.l, ∀ y ∈ l, 0 ≤ y ∧ y ≤ 255) :
    IsChest B (w.setCell ⟨r, i, none⟩ v) r q' p x' hv' nv' ∧ (∀ q0 s0, IsScroll w q0 p s0 → IsScroll (w.setCell ⟨r, i, none⟩ v) q0 p s0) ∧ IsDrum B (w.setCell ⟨r, i, none⟩ v) p gs wv S ∧ Kept B cts w (w.setCell ⟨r, i, none⟩ v) :=
  h.st.set h.br hd i v e hq h1 h2 h3 h4

set_option maxHeartbeats 4000000 in
theorem csync_any (B r q p gs : Nat) (wv hv nv : Value) (x : CS) (s : SS) (S : DS) (w : World) (hd : IsDrum B w p gs wv S) (hs : IsScroll w q p s) (hc : IsChest B w r q p x hv nv) (hlen : S.waits.length ≤ 1000000000) :
    Calls Tryd.prog 45 #[.pointer (some ⟨r, 0, none⟩)] w fun e w' => e = .returned (.int .i64 (csyncR x s S).1) ∧ (∃ wv', IsDrum B w' p gs wv' (csyncR x s S).2.2.2) ∧ IsScroll w' q p (csyncR x s S).2.2.1 ∧ IsChest B w' r q p (csyncR x s S).2.1 hv nv ∧ KeptC B nv w w' := by
  have k6 : w.cell? ⟨r, 6, none⟩ = some (.bool x.gone) := hc.st.cell 6
  have k0 : w.cell? ⟨r, 0, none⟩ = some (.pointer (some ⟨q, 0, none⟩)) := hc.st.cell 0
  cases hg : x.gone with
  | true =>
    have hR : csyncR x s S = (20, x, s, S) := by unfold csyncR; rw [if_pos hg]
    rw [hR]
    rw [hg] at k6
    have HC := Lib.hid hc
    have HS := Lib.hid hs
    have HD := Lib.hid hd
    clear hc hs hd hR hg
    go_enter Tryd.func45, Tryd.ntmps45
    go_wp2_with fail
    go_ret
    exact ⟨rfl, ⟨wv, HD.out⟩, HS.out, HC.out, .sts (Kept.refl _ _ _)⟩
  | false =>
    have hR : csyncR x s S = ((syncR s S).1, { x with gone := (syncR s S).1 != 0 }, (syncR s S).2.1, (syncR s S).2.2) := by unfold csyncR; rw [if_neg (by rw [hg]; simp)]
    rw [hR]
    rw [hg] at k6
    have hsy := ssync_any B q p gs wv s S w hd hs hc.bq hlen
    obtain ⟨⟨er, s1, T⟩, hE⟩ : ∃ E, syncR s S = E := ⟨_, rfl⟩
    rw [hE] at hsy ⊢
    simp only at hsy ⊢
    have HC := Lib.hid hc
    clear hc hs hd hR hE
    go_enter Tryd.func45, Tryd.ntmps45
    go_wp2_with fail
    with_reducible refine hsy.mono ?_
    rintro e w1 ⟨rfl, ⟨wv1, hd1⟩, hs1, hk1⟩
    have hc1 := HC.out.kept hk1
    have j6 : w1.cell? ⟨r, 6, none⟩ = some (.bool x.gone) := hc1.st.cell 6
    have jf := hc1.st.frozen 6
    have hfin : ∀ b : Bool, _ := fun b => hc1.set (x' := { x with gone := b }) (q' := q) (hv' := hv) (nv' := nv) hd1 6 (.bool b) (by simp) hc1.bq hc1.hd hc1.nt hc1.hb hc1.nb
    have HF := Lib.hid hfin
    have HS1 := Lib.hid hs1
    have K1 := Lib.hid hk1
    clear hsy hd1 hs1 hk1 hc1 hfin
    go_wp2_with fail
    go_ret
    obtain ⟨f1, f2, f3, f4⟩ := HF.out (er != 0)
    exact ⟨rfl, ⟨wv1, f3⟩, f2 _ _ HS1.out, f1, (KeptC.sts K1.out).trans (KeptC.of (nv := nv) f4 (fun _ h => h)) (fun k hk => .inl hk)⟩

end Go.Proofs.YtohadeijmmmcdaaDoor
