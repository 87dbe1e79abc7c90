/-
  The program's drum and the document's, side by side.
-/
import Derived.Test.YtohadeijmmmcdaaRefF
import Derived.Test.YtohadeijmmmcdaaFuseW
namespace Go.Proofs.Ytohadeijmmmcdaa
open Go.RowKit

theorem Byt.block_lt {w : World} {A : Option Addr} {b : List Int} (h : Byt w A b) {a : Addr} (e : A = some a) (h0 : 0 < b.length) : a.block < w.heap.size := by
  obtain ⟨g, off, e2, hg, _⟩ := h.cell h0
  rw [e2] at e
  cases e
  exact hg
theorem Byt.old {w wr : World} {A : Option Addr} {b : List Int} (h : Byt w A b) (hbl : Below w.heap.size w wr) : Byt wr A b :=
  h.fr (Fr.of_below hbl) (fun a e h0 h2 => by
    have h1 := h.block_lt e h0
    have h3 : w.heap.size ≤ a.block := h2
    omega)

theorem write_any2 (B : Nat) (p gs : Nat) (wv : Value) (S : DS) (k : Int) (A : Option Addr) (c : Nat) (b : List Int) (w : World) (h : IsDrum B w p gs wv S) (hb : Byt w A b) (hA : ∀ a, A = some a → 0 < b.length → a.block ≠ p) (hlen : S.waits.length ≤ 1000000000) (hB : B ≤ w.heap.size) :
    Calls Try.prog 11 #[.pointer (some ⟨p, 0, none⟩), .int .i64 k, .slice A b.length c] w fun e w' =>
      e = .returned (.int .i64 (S.write k b).1) ∧ (∃ wv', IsDrum B w' p gs wv' (S.write k b).2 ∧ Foot w wv wv') ∧ Fr (DF p gs wv) w w' := by
  by_cases hb64 : b.length = 64
  · exact write_any B p gs wv S k A c b w h hb (fun a e => hA a e (by omega)) hlen hB
  by_cases hoff : S.off = true
  · have e1 : S.write k b = (21, S) := by simp [DS.write, hoff]
    have hst := h.st
    rw [hoff] at hst
    refine (write_down p _ wv _ k _ w hst).mono ?_
    rintro e w' ⟨rfl, rfl⟩
    rw [e1]
    exact ⟨rfl, ⟨wv, h, Foot.refl _ _⟩, Fr.refl _ _⟩
  have hoff : S.off = false := by simpa using hoff
  have hst := h.st
  rw [hoff] at hst
  by_cases hk : k < 0 ∨ S.sure.length ≤ k
  · have e1 : S.write k b = (5, S) := by simp [DS.write, hoff, hk]
    refine (write_range p gs _ wv _ k _ w hst hk).mono ?_
    rintro e w' ⟨rfl, rfl⟩
    rw [e1]
    exact ⟨rfl, ⟨wv, h, Foot.refl _ _⟩, Fr.refl _ _⟩
  have e1 : S.write k b = (1, S) := by simp [DS.write, hoff, hk, hb64]
  refine (write_arg p gs _ wv _ k A b.length c w hst (by omega) (by omega) hb64).mono ?_
  rintro e w' ⟨rfl, rfl⟩
  rw [e1]
  exact ⟨rfl, ⟨wv, h, Foot.refl _ _⟩, Fr.refl _ _⟩

theorem rwrite_any2 (B : Nat) (q : Nat) (lv wv : Value) (ls : List Value) (ws : List (Nat × Value)) (S : DS) (k : Int) (A : Option Addr) (c : Nat) (b : List Int) (w : World) (h : IsRef B w q lv wv ls ws S) (hb : Byt w A b) (hA : ∀ a, A = some a → 0 < b.length → a.block ≠ q) (hlen : S.waits.length ≤ 1000000) (hB : B ≤ w.heap.size) :
    Calls Try.prog 20 #[.pointer (some ⟨q, 0, none⟩), .int .i64 k, .slice A b.length c] w fun e w' =>
      e = .returned (.int .i64 (S.write k b).1) ∧ (∃ wv' ws', IsRef B w' q lv wv' ls ws' (S.write k b).2) ∧ Fr (RF q lv wv) w w' := by
  by_cases hb64 : b.length = 64
  · exact rwrite_any B q lv wv ls ws S k A c b w h hb (fun a e => hA a e (by omega)) hlen hB
  obtain ⟨Al, capl, hlv⟩ := own_form h.l
  have hst := h.st
  by_cases hoff : S.off = true
  · have e1 : S.write k b = (21, S) := by simp [DS.write, hoff]
    rw [hoff] at hst
    refine (rwrite_down q _ wv _ k _ w hst).mono ?_
    rintro e w' ⟨rfl, rfl⟩
    rw [e1]
    exact ⟨rfl, ⟨wv, ws, h⟩, Fr.refl _ _⟩
  have hoff : S.off = false := by simpa using hoff
  rw [hoff, hlv] at hst
  by_cases hk : k < 0 ∨ S.sure.length ≤ k
  · have e1 : S.write k b = (5, S) := by simp [DS.write, hoff, hk]
    refine (rwrite_range q _ _ _ wv _ k _ w hst hk).mono ?_
    rintro e w' ⟨rfl, rfl⟩
    rw [e1]
    exact ⟨rfl, ⟨wv, ws, h⟩, Fr.refl _ _⟩
  have e1 : S.write k b = (1, S) := by simp [DS.write, hoff, hk, hb64]
  refine (rwrite_arg q _ _ _ wv _ k A b.length c w hst (by omega) (by omega) hb64).mono ?_
  rintro e w' ⟨rfl, rfl⟩
  rw [e1]
  exact ⟨rfl, ⟨wv, ws, h⟩, Fr.refl _ _⟩

/-- Both drums in memory: the program's at p is S, the document's at q is T. -/
structure Pair (w wr : World) (p gp q : Nat) (S T : DS) : Prop where
  ex : ∃ v lv u ls ws, IsDrum w.heap.size wr p gp v S ∧ IsRef w.heap.size wr q lv u ls ws T
  below : Below w.heap.size w wr

/-- The drums' own types. -/
def sixT : List TypeId := [57, 60, 62, 50, 26, 66]
/-- Blocks of other types stay. -/
def Kept (w w' : World) : Prop := ∀ k t cs, Blk w k t cs → t ∉ sixT → Blk w' k t cs
theorem Kept.of_fr {w w' : World} {F : Nat → Prop} {ts : List TypeId} (hf : Fr F w w') (ht : Typed w F ts) (hs : ∀ t ∈ ts, t ∈ sixT) : Kept w w' :=
  fun _ _ _ hb hn => hb.fr hf (typed_not ht hb (fun h => hn (hs _ h)))
theorem Kept.of_below {w w' : World} (hb : Below w.heap.size w w') : Kept w w' :=
  fun _ _ _ h _ => h.fr (Fr.of_below hb) (fun hk => by have h1 := h.lt; have h2 : w.heap.size ≤ _ := hk; omega)

section
variable {w wr w' : World} {p gp q : Nat} {S S' T T' : DS}
theorem Pair.dstep {v v' lv u : Value} {ls : List Value} {ws : List (Nat × Value)} (hd : IsDrum w.heap.size wr p gp v S) (hr : IsRef w.heap.size wr q lv u ls ws T) (hbl : Below w.heap.size w wr)
    (hd' : IsDrum w.heap.size w' p gp v' S') (hf : Fr (DF p gp v) wr w') : Pair w w' p gp q S' T ∧ Kept wr w' :=
  ⟨⟨⟨v', lv, u, ls, ws, hd', hr.fr hf hd.typed (by decide) (by decide) (by decide) (by decide)⟩, hbl.trans (hd.below hf (Nat.le_refl _) hbl.size)⟩, Kept.of_fr hf hd.typed (by decide)⟩
theorem Pair.rstep {v lv u lv' u' : Value} {ls ls' : List Value} {ws ws' : List (Nat × Value)} (hd : IsDrum w.heap.size wr p gp v S) (hr : IsRef w.heap.size wr q lv u ls ws T) (hbl : Below w.heap.size w wr)
    (hr' : IsRef w.heap.size w' q lv' u' ls' ws' T') (hf : Fr (RF q lv u) wr w') : Pair w w' p gp q S T' ∧ Kept wr w' :=
  ⟨⟨⟨v, lv', u', ls', ws', hd.fr hf (fun k hk hr2 => by
      obtain ⟨t, cs, hb, ht⟩ := hd.typed k hk
      exact typed_not hr.typed hb (by clear hb; revert t; decide) hr2), hr'⟩, hbl.trans (hf.below hbl.size (fun k hk h2 => by have := (hr.lt h2).1; omega))⟩, Kept.of_fr hf hr.typed (by decide)⟩
theorem Pair.next (h : Pair w wr p gp q S T) (hb : Below wr.heap.size wr w') : Pair w w' p gp q S T ∧ Kept wr w' := by
  obtain ⟨⟨v, lv, u, ls, ws, hd, hr⟩, hbl⟩ := h
  refine ⟨⟨⟨v, lv, u, ls, ws, hd.fr (Fr.of_below hb) (fun k hk h2 => ?_), hr.nofr ((Fr.of_below hb).mono (fun k hk h2 => ?_))⟩, hbl.trans (hb.mono hbl.size)⟩, Kept.of_below hb⟩
  · have h1 := (hd.lt hk).2
    have h3 : wr.heap.size ≤ k := h2
    omega
  · have h3 : wr.heap.size ≤ k := h2
    omega
theorem Pair.drew (h : Pair w wr p gp q S T) (m : Nat) : Pair w (wr.drewN m) p gp q S T := (h.next ((Fr.refl (fun _ => False) wr).drewN m |>.below (Nat.le_refl _) (fun _ _ f => f))).1
theorem Pair.alloc (h : Pair w wr p gp q S T) (o : Obj) : Pair w (wr.alloc o) p gp q S T := (h.next ((Fr.refl (fun _ => False) wr).alloc o |>.below (Nat.le_refl _) (fun _ _ f => f))).1
theorem Pair.size (h : Pair w wr p gp q S T) : w.heap.size ≤ wr.heap.size := h.below.size
end

section
variable (w wr : World) (p gp q : Nat) (S T : DS)
theorem pair_dwrite (k : Int) (A : Option Addr) (c : Nat) (b : List Int) (h : Pair w wr p gp q S T) (hb : Byt w A b) (hlen : S.waits.length ≤ 1000000) :
    Calls Try.prog 11 #[.pointer (some ⟨p, 0, none⟩), .int .i64 k, .slice A b.length c] wr fun e w' =>
      e = .returned (.int .i64 (S.write k b).1) ∧ Pair w w' p gp q (S.write k b).2 T ∧ Kept wr w' := by
  obtain ⟨⟨v, lv, u, ls, ws, hd, hr⟩, hbl⟩ := h
  refine (write_any2 _ p gp v S k A c b wr hd (hb.old hbl) (fun a e h0 e2 => by have := hb.block_lt e h0; have := (hd.lt (.inl rfl)).1; omega) (by omega) hbl.size).mono ?_
  rintro e w' ⟨rfl, ⟨v', hd', -⟩, hf⟩
  exact ⟨rfl, Pair.dstep hd hr hbl hd' hf⟩
theorem pair_rwrite (k : Int) (A : Option Addr) (c : Nat) (b : List Int) (h : Pair w wr p gp q S T) (hb : Byt w A b) (hlen : T.waits.length ≤ 1000000) :
    Calls Try.prog 20 #[.pointer (some ⟨q, 0, none⟩), .int .i64 k, .slice A b.length c] wr fun e w' =>
      e = .returned (.int .i64 (T.write k b).1) ∧ Pair w w' p gp q S (T.write k b).2 ∧ Kept wr w' := by
  obtain ⟨⟨v, lv, u, ls, ws, hd, hr⟩, hbl⟩ := h
  refine (rwrite_any2 _ q lv u ls ws T k A c b wr hr (hb.old hbl) (fun a e h0 e2 => by have := hb.block_lt e h0; have := (hr.lt (.inl rfl)).1; omega) (by omega) hbl.size).mono ?_
  rintro e w' ⟨rfl, ⟨v', ws', hr'⟩, hf⟩
  exact ⟨rfl, Pair.rstep hd hr hbl hr' hf⟩
theorem pair_dsync (h : Pair w wr p gp q S T) (hlen : S.waits.length ≤ 1000000) :
    Calls Try.prog 12 #[.pointer (some ⟨p, 0, none⟩)] wr fun e w' => e = .returned (.int .i64 S.sync.1) ∧ Pair w w' p gp q S.sync.2 T ∧ Kept wr w' := by
  obtain ⟨⟨v, lv, u, ls, ws, hd, hr⟩, hbl⟩ := h
  refine (sync_any _ p gp v S wr hd (by omega)).mono ?_
  rintro e w' ⟨rfl, ⟨v', hd', -⟩, hf⟩
  exact ⟨rfl, Pair.dstep hd hr hbl hd' hf⟩
theorem pair_rsync (h : Pair w wr p gp q S T) (hlen : T.waits.length ≤ 1000000) :
    Calls Try.prog 21 #[.pointer (some ⟨q, 0, none⟩)] wr fun e w' => e = .returned (.int .i64 T.sync.1) ∧ Pair w w' p gp q S T.sync.2 ∧ Kept wr w' := by
  obtain ⟨⟨v, lv, u, ls, ws, hd, hr⟩, hbl⟩ := h
  refine (rsync_any _ q lv u ls ws T wr hr (by omega)).mono ?_
  rintro e w' ⟨rfl, ⟨v', ls', ws', hr'⟩, hf⟩
  exact ⟨rfl, Pair.rstep hd hr hbl hr' hf⟩
theorem pair_dstart (A : Option Addr) (c : Nat) (b : List Int) (h : Pair w wr p gp q S T) (hb : Byt w A b) (hlen : S.waits.length ≤ 1000000) (hml : b.length ≤ 1000000) :
    Calls Try.prog 13 #[.pointer (some ⟨p, 0, none⟩), .slice A b.length c] wr fun e w' => e = .returned (.tuple #[]) ∧ Pair w w' p gp q (S.start b) T ∧ Kept wr w' := by
  obtain ⟨⟨v, lv, u, ls, ws, hd, hr⟩, hbl⟩ := h
  refine (start_any _ p gp v S A c b wr hd (hb.old hbl) (fun a e h0 e2 => by have := hb.block_lt e h0; have := (hd.lt e2).1; omega) (by omega) (by unfold maxLen; omega)).mono ?_
  rintro e w' ⟨rfl, hd', hf⟩
  exact ⟨rfl, Pair.dstep hd hr hbl hd' hf⟩
theorem pair_rstart (A : Option Addr) (c : Nat) (b : List Int) (h : Pair w wr p gp q S T) (hb : Byt w A b) (hlen : T.waits.length ≤ 1000000) (hml : b.length ≤ 1000000) :
    Calls Try.prog 22 #[.pointer (some ⟨q, 0, none⟩), .slice A b.length c] wr fun e w' => e = .returned (.tuple #[]) ∧ Pair w w' p gp q S (T.start b) ∧ Kept wr w' := by
  obtain ⟨⟨v, lv, u, ls, ws, hd, hr⟩, hbl⟩ := h
  refine (rstart_any _ q lv u ls ws T A c b wr hr (hb.old hbl) (fun a e h0 e2 => by have := hb.block_lt e h0; have := (hr.lt e2).1; omega) (by omega) hml).mono ?_
  rintro e w' ⟨ls', rfl, hr', hf⟩
  exact ⟨rfl, Pair.rstep hd hr hbl hr' hf⟩
theorem pair_dread (k : Int) (h : Pair w wr p gp q S T) (hlen : S.waits.length ≤ 1000000) :
    Calls Try.prog 14 #[.pointer (some ⟨p, 0, none⟩), .int .i64 k] wr fun e w' =>
      ∃ A c, (e = .returned (.tuple #[.slice A (S.read k).1.length c, .int .i64 (S.read k).2]) ∧ Byt w' A (S.read k).1 ∧ Pair w w' p gp q S T ∧ Below wr.heap.size wr w') := by
  have h0 := h
  obtain ⟨⟨v, lv, u, ls, ws, hd, hr⟩, hbl⟩ := h
  refine (read_any _ p gp v S k wr hd (by omega)).mono ?_
  rintro e w' ⟨A, c, rfl, hn, hb⟩
  exact ⟨A, c, rfl, hn.byt, (h0.next hb).1, hb⟩
theorem pair_rread (k : Int) (h : Pair w wr p gp q S T) (hlen : T.waits.length ≤ 1000000) :
    Calls Try.prog 23 #[.pointer (some ⟨q, 0, none⟩), .int .i64 k] wr fun e w' =>
      ∃ A c, (e = .returned (.tuple #[.slice A (T.read k).1.length c, .int .i64 (T.read k).2]) ∧ Byt w' A (T.read k).1 ∧ Pair w w' p gp q S T ∧ Below wr.heap.size wr w') := by
  have h0 := h
  obtain ⟨⟨v, lv, u, ls, ws, hd, hr⟩, hbl⟩ := h
  refine (rread_any _ q lv u ls ws T k wr hr (by omega) hbl.size).mono ?_
  rintro e w' ⟨A, c, rfl, hn, hb⟩
  exact ⟨A, c, rfl, hn.byt, (h0.next hb).1, hb⟩

/-- Fuse, and the document's. -/
def DS.refuse (S : DS) (n : Int) : DS := { S with fuse := max n 0 }
/-- Power lost at once. -/
def DS.down (S : DS) : DS := { S with off := true }
theorem DS.refuse_ok {S : DS} (h : S.Ok) {n : Int} (hn : n ≤ 9223372036854775807) : (S.refuse n).Ok := ⟨h.n1, h.n2, h.sure, h.waits, by simp [DS.refuse]; omega, by simp [DS.refuse]; omega⟩
theorem DS.down_ok {S : DS} (h : S.Ok) : S.down.Ok := ⟨h.n1, h.n2, h.sure, h.waits, h.f0, h.f1⟩
theorem pair_fuse (n : Int) (h : Pair w wr p gp q S T) (hn : n ≤ 9223372036854775807) :
    Calls Try.prog 17 #[.pointer (some ⟨p, 0, none⟩), .int .i64 n] wr fun e w' => e = .returned (.tuple #[]) ∧ Pair w w' p gp q (S.refuse n) T ∧ Kept wr w' := by
  obtain ⟨⟨v, lv, u, ls, ws, hd, hr⟩, hbl⟩ := h
  refine (fuse_any p _ _ _ _ n wr hd.st).mono ?_
  rintro e w' ⟨rfl, hd', hfr⟩
  exact ⟨rfl, Pair.dstep (S' := S.refuse n) hd hr hbl ⟨DS.refuse_ok hd.ok hn, hd.b1, hd.b2, hd', hd.sure.fr hfr (fun e => hd.ne1 e.symm), own_fr hd.waits hfr (fun k hk e => hd.ne2 (e ▸ hk))⟩ (hfr.mono fun k _ e => .inl e)⟩
theorem pair_fail (h : Pair w wr p gp q S T) :
    Calls Try.prog 16 #[.pointer (some ⟨p, 0, none⟩)] wr fun e w' => e = .returned (.tuple #[]) ∧ Pair w w' p gp q S.down T ∧ Kept wr w' := by
  obtain ⟨⟨v, lv, u, ls, ws, hd, hr⟩, hbl⟩ := h
  refine (fail_any p _ _ _ _ wr hd.st).mono ?_
  rintro e w' ⟨rfl, hd', hfr⟩
  exact ⟨rfl, Pair.dstep (S' := S.down) hd hr hbl ⟨DS.down_ok hd.ok, hd.b1, hd.b2, hd', hd.sure.fr hfr (fun e => hd.ne1 e.symm), own_fr hd.waits hfr (fun k hk e => hd.ne2 (e ▸ hk))⟩ (hfr.mono fun k _ e => .inl e)⟩
end

section
variable {w wr : World} {p gp q : Nat} {S T : DS}
theorem Pair.rblk (h : Pair w wr p gp q S T) : ∃ lv u, Blk wr q 50 #[lv, u, .int .i64 T.fuse, .bool T.off] := by
  obtain ⟨⟨v, lv, u, ls, ws, hd, hr⟩, hbl⟩ := h
  exact ⟨lv, u, hr.st⟩
theorem Pair.rfuse (h : Pair w wr p gp q S T) {n : Int} (hn : n ≤ 9223372036854775807) : Pair w (wr.setCell ⟨q, 2, none⟩ (.int .i64 (max n 0))) p gp q S (T.refuse n) ∧ Kept wr (wr.setCell ⟨q, 2, none⟩ (.int .i64 (max n 0))) := by
  obtain ⟨⟨v, lv, u, ls, ws, hd, hr⟩, hbl⟩ := h
  have hf := (Fr.refl (fun k => k = q) wr).setCell (p := ⟨q, 2, none⟩) (fun _ => rfl) (.int .i64 (max n 0))
  exact Pair.rstep hd hr hbl (T' := T.refuse n) (hr.turn hf (DS.refuse_ok hr.ok hn) rfl rfl (by simpa [DS.refuse] using hr.st.set_ 2 (.int .i64 (max n 0)))) (hf.mono fun k _ e => .inl e)
theorem Pair.rdown (h : Pair w wr p gp q S T) : Pair w (wr.setCell ⟨q, 3, none⟩ (.bool true)) p gp q S T.down ∧ Kept wr (wr.setCell ⟨q, 3, none⟩ (.bool true)) := by
  obtain ⟨⟨v, lv, u, ls, ws, hd, hr⟩, hbl⟩ := h
  have hf := (Fr.refl (fun k => k = q) wr).setCell (p := ⟨q, 3, none⟩) (fun _ => rfl) (.bool true)
  exact Pair.rstep hd hr hbl (T' := T.down) (hr.turn hf (DS.down_ok hr.ok) rfl rfl (by simpa [DS.down] using hr.st.set_ 3 (.bool true))) (hf.mono fun k _ e => .inl e)
end

end Go.Proofs.Ytohadeijmmmcdaa
