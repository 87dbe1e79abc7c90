/-
  A scroll's functions, where all goes well, on a drum of one's own.
-/
import Derived.Test.YtohadeijmmmcdaaDoorLawS
namespace Go.Proofs.YtohadeijmmmcdaaDoor
open Go.RowKit
set_option maxRecDepth 100000

/-- What a walk with a drum of its own knows: the drum stands from base B on, all below is kept. -/
structure At (w : World) (B p gs : Nat) (S : DS) (W : World) : Prop where
  drum : ∃ wv, IsDrum B W p gs wv S
  below : Below w.heap.size w W
  base : w.heap.size ≤ B
  two : 2 ≤ w.heap.size
  glob : Glob W
section
variable {w W W' : World} {B p gs : Nat} {S S' : DS} {ts : List TypeId}
theorem At.ok (h : At w B p gs S W) : S.Ok := by obtain ⟨wv, hd⟩ := h.drum; exact hd.ok
theorem At.size (h : At w B p gs S W) : B ≤ W.heap.size := by obtain ⟨wv, hd⟩ := h.drum; have := hd.lt (.inl rfl); omega
theorem At.kept (h : At w B p gs S W) (hk : Kept B ts W W') (hd : ∃ wv, IsDrum B W' p gs wv S') : At w B p gs S' W' :=
  ⟨hd, h.below.trans (hk.below.mono h.base), h.base, h.two, h.glob.fr (Fr.of_below hk.below) (by have := h.base; have := h.two; omega) (by have := h.base; have := h.two; omega)⟩
theorem At.after (h : At w B p gs S W) (hb : Below W.heap.size W W') : At w B p gs S W' := by
  obtain ⟨wv, hd⟩ := h.drum
  exact h.kept (ts := []) (Kept.of_below hb h.size) ⟨wv, Kept.drum_below hb hd⟩
theorem At.new (hg : Glob w) (h2 : 2 ≤ w.heap.size) {w2 : World} (h1 : Below w.heap.size w w2) (n : Nat) (hd : IsDrum w2.heap.size W (w2.heap.size + 1) w2.heap.size (.slice none 0 0) (DS.new n)) (hb : Below w2.heap.size w2 W) : At w w2.heap.size (w2.heap.size + 1) w2.heap.size (DS.new n) W :=
  ⟨⟨_, hd⟩, h1.trans (hb.mono h1.size), h1.size, h2, (hg.below (h1.trans (hb.mono h1.size)))⟩
end

theorem blank_has {w W : World} {B p gs : Nat} {S : DS} (h : At w B p gs S W) (hg : S.Good) (f m t : Nat) (hf : f + m ≤ S.sure.length) (ht : t ≤ 1099511627776) (hlen : S.waits.length + m ≤ 1000000000) :
    Calls Tryd.prog 19 #[.pointer (some ⟨p, 0, none⟩), .int .i64 (f : Int), .int .i64 (m : Int), .int .i64 (t : Int)] W fun e W' =>
      ∃ q T, e = .returned (.tuple #[.pointer (some ⟨q, 0, none⟩), .int .i64 0]) ∧ IsScroll W' q p ⟨f, m, t, 0, 0, false⟩ ∧ W.heap.size ≤ q ∧ At w B p gs T W' ∧ Has T ⟨f, m, t, 0, 0, false⟩ [] ∧ T.waits.length ≤ S.waits.length + m ∧ T.sure.length = S.sure.length ∧
        (∀ j, j < S.sure.length → T.now j = if f ≤ j ∧ j < f + m then Z64 else S.now j) ∧ Kept B dts W W' := by
  obtain ⟨wv, hd⟩ := h.drum
  refine (blank_any B p gs wv S f m t W hd hf ht hlen h.glob).mono ?_
  rintro e W' ⟨hb, hd', hk⟩
  obtain ⟨h1, h2, h3, h4, h5⟩ := wipeR_good hd.ok hg hf
  rcases hb with ⟨_, q, rfl, hs, hq⟩ | ⟨hn, _⟩
  · exact ⟨q, _, rfl, hs, hq, h.kept hk hd', Has.blank hd.ok hg hf ht, h4, h3, h5, hk⟩
  · exact absurd h1 hn

theorem put_has {w W : World} {B q p gs : Nat} {S : DS} {s : SS} {l : List (List Int)} (h : At w B p gs S W) (hs : IsScroll W q p s) (hq : B ≤ q) (H : Has S s l) (A : Option Addr) (c : Nat) (b : List Int) (hb : Byt W A b) (hcA : A = none → c = 0) (hbl : b.length ≤ 100000000)
    (he : formE s.t s.n b = 0) (hr : s.u + recS s.t s.n b ≤ s.m) (hlen : S.waits.length + 1024 ≤ 1000000000) :
    Calls Tryd.prog 20 #[.pointer (some ⟨q, 0, none⟩), .slice A b.length c] W fun e W' =>
      e = .returned (.int .i64 0) ∧ ∃ T, IsScroll W' q p { s with u := s.u + recS s.t s.n b, n := s.n + 1 } ∧ At w B p gs T W' ∧ Has T { s with u := s.u + recS s.t s.n b, n := s.n + 1 } (l ++ [b]) ∧
        T.waits.length = S.waits.length + recS s.t s.n b ∧ T.sure = S.sure ∧ (∀ j, j < s.f ∨ s.f + s.m ≤ j → T.now j = S.now j) ∧ Kept B sts W W' := by
  obtain ⟨wv, hd⟩ := h.drum
  obtain ⟨p1, p2, p3, p4, p5, p6⟩ := H.put he hr
  obtain ⟨_, hn, _⟩ := formE_zero he
  refine (put_any B q p gs wv s S A c hcA b W hd hs hq H.um H.room hn hlen hb hbl h.glob).mono ?_
  rintro e W' ⟨rfl, hd', hs', hk⟩
  rw [p1]
  rw [p2] at hs'
  exact ⟨rfl, _, hs', h.kept hk hd', p3, p5, p4, p6, hk⟩

/-- A scan, whatever the turn. -/
theorem scan_gen {w W : World} {B p gs : Nat} {S : DS} (h : At w B p gs S W) (hg : S.Good) (f m t : Nat) (hf : f + m ≤ S.sure.length) (ht : t ≤ 1099511627776) (hlen : S.waits.length ≤ 1000000000) :
    Calls Tryd.prog 21 #[.pointer (some ⟨p, 0, none⟩), .int .i64 (f : Int), .int .i64 (m : Int), .int .i64 (t : Int)] W fun e W' =>
      ∃ v, e = .returned (.tuple #[v, .int .i64 ((scanAll t (stP S f m)).2 : Int), .int .i64 0]) ∧ OwnT W.heap.size W' v (scanAll t (stP S f m)).1 ∧ At w B p gs S W' ∧ Below W.heap.size W W' := by
  obtain ⟨wv, hd⟩ := h.drum
  have hn := hd.ok.n2
  refine (scan_any B p gs wv S (f : Int) (m : Int) (t : Int) (by omega) W hd hlen h.glob).mono ?_
  rintro e W' ⟨⟨v, rfl, ho⟩, hb⟩
  rw [scanR_ok hf ht, if_neg (by rw [hg.1]; simp)] at ho ⊢
  exact ⟨v, rfl, ho, h.after hb, hb⟩
theorem scan_has {w W : World} {B p gs : Nat} {S : DS} {s : SS} {l : List (List Int)} (h : At w B p gs S W) (H : Has S s l) (hlen : S.waits.length ≤ 1000000000) :
    Calls Tryd.prog 21 #[.pointer (some ⟨p, 0, none⟩), .int .i64 (s.f : Int), .int .i64 (s.m : Int), .int .i64 (s.t : Int)] W fun e W' =>
      ∃ v, e = .returned (.tuple #[v, .int .i64 (s.u : Int), .int .i64 0]) ∧ OwnT W.heap.size W' v l ∧ At w B p gs S W' ∧ Below W.heap.size W W' := by
  have := scan_gen h H.good s.f s.m s.t H.room H.t hlen
  rw [H.scan] at this
  exact this

end Go.Proofs.YtohadeijmmmcdaaDoor
