/-
  ChestKeeps: the chest while its power may fail, in the world.
-/
import Derived.Test.YtohadeijmmmcdaaDoorKpO
import Derived.Test.YtohadeijmmmcdaaDoorKpK
import Derived.Test.YtohadeijmmmcdaaDoorChPlW
namespace Go.Proofs.YtohadeijmmmcdaaDoor
open Go Go.RowKit Machine
set_option maxRecDepth 100000

theorem sizeP_ge (t : Nat) : ∀ (l : List (List Int)) (n : Nat), l.length ≤ sizeP t n l
  | [], _ => by simp
  | b :: l, n => by
    have := sizeP_ge t l (n + 1)
    have h1 : 1 ≤ recS t n b := by unfold recS secP; omega
    simp only [List.length_cons, sizeP]
    omega
/-- While it isn't gone a chest has at most 12 records. -/
theorem ChOk.len12 {x : CS} {s : SS} {S : DS} {T : Nat} {L : List (List Int)} (h : ChOk x s S T L) (hS : S.sure.length = 24) : L.length ≤ 12 ∧ x.l.length + 1 = L.length := by
  have h1 := sizeP_ge T L 0
  have h2 := h.has.u
  have h3 := h.has.um
  rw [h.st] at h2
  rw [h.m, hS] at h3
  refine ⟨by omega, ?_⟩
  rw [h.l]
  simp

structure KpS (w : World) (p gs i r T k n : Nat) (nv : Value) (gone : Bool) (W : World) : Prop where
  ex : ∃ (x : CS) (s : SS) (S : DS) (sd mx : Nat) (P L : List (List Int)), ChN w w.heap.size p gs r x s S nv W ∧ KInv mx x s S sd T P L ∧ x.gone = gone ∧ S.waits.length ≤ i * 2000 ∧ mx ≤ i ∧ P.length = k ∧ (gone = false → L.length = n ∧ n ≤ 12)

section
variable {w : World} {p gs i r T k n : Nat} {nv : Value} {gone : Bool} {W W' : World}
theorem KpS.below (h : KpS w p gs i r T k n nv gone W) (hb : Below W.heap.size W W') : KpS w p gs i r T k n nv gone W' := by
  obtain ⟨x, s, S, sd, mx, P, L, h1, h2⟩ := h.ex
  exact ⟨x, s, S, sd, mx, P, L, h1.after hb, h2⟩
theorem KpS.at_ (h : KpS w p gs i r T k n nv gone W) : Below w.heap.size w W ∧ Glob W ∧ w.heap.size ≤ W.heap.size := by
  obtain ⟨x, s, S, sd, mx, P, L, h1, h2⟩ := h.ex
  exact ⟨h1.at_.below, h1.at_.glob, h1.at_.size⟩
theorem KpS.nvb (h : KpS w p gs i r T k n nv gone W) : ∀ j, nv.ownBlock = some j → w.heap.size ≤ j ∧ ∃ cs, Blk W j 22 cs := by
  obtain ⟨x, s, S, sd, mx, P, L, h1, h2⟩ := h.ex
  exact h1.nvb
theorem KpS.tries (h : KpS w p gs i r T k n nv gone W) {nv' : Value} {v : Value} {ts : List (Int × List (List Int))} (hT : TrV w.heap.size nv W v ts) (hk : KeptC w.heap.size nv W W') (hf : Foot W nv nv') : TrV w.heap.size nv' W' v ts := by
  obtain ⟨x, s, S, sd, mx, P, L, h1, h2⟩ := h.ex
  exact hT.keptC h1 hk hf
theorem KpS.q (h : KpS w p gs i r T k n nv gone W) {g : Nat} {t : TypeId} {cs : Array Value} (hg : Blk W g t cs) (ht : t ∉ cts) (ht2 : 22 ≠ t) (hk : KeptC w.heap.size nv W W') : Blk W' g t cs :=
  hk.kt _ _ _ hg ht (fun e => by
    obtain ⟨_, cs2, h3⟩ := h.nvb _ e
    exact ht2 (hg.inj h3).1.symm)

/-- Keep's answers. -/
def KeepAns (E : Int) (gone gone' : Bool) (n n' : Nat) : Prop := (E = 0 ∧ gone = false ∧ gone' = false ∧ n' = n + 1) ∨ ((E = 4 ∨ E = 18) ∧ gone = false ∧ gone' = false ∧ n' = n) ∨ (E = 20 ∧ gone' = true)
theorem KpS.keep (h : KpS w p gs i r T k n nv gone W) (hi : i ≤ 90) (B : Option Addr) (d : Nat) (b : List Int) (hb : BytN w B d b) (hbl : b.length ≤ 300) :
    Calls Tryd.prog 37 #[.pointer (some ⟨r, 0, none⟩), .slice B b.length d] W fun e W' => ∃ E nv' gone' n', e = .returned (.int .i64 E) ∧ KpS w p gs (i + 1) r T k n' nv' gone' W' ∧ Foot W nv nv' ∧ KeptC w.heap.size nv W W' ∧ KeepAns E gone gone' n n' := by
  obtain ⟨x, s, S, sd, mx, P, L, h1, h2, rfl, h4, h5, h6, h7⟩ := h.ex
  cases hg : x.gone with
  | true =>
    have k6 : W.cell? ⟨r, 6, none⟩ = some (.bool true) := by
      obtain ⟨q, hv, _, a2⟩ := h1.ch
      rw [← hg]
      exact a2.st.cell 6
    refine (ckeep_gone r _ W k6).mono ?_
    rintro e W' ⟨rfl, rfl⟩
    exact ⟨20, nv, true, n, rfl, ⟨x, s, S, sd, mx, P, L, h1, h2, hg, by omega, by omega, h6, fun e => by cases e⟩, Foot.refl _ _, KeptC.of (Kept.refl _ _ _) (fun t ht => ht), .inr (.inr ⟨rfl, rfl⟩)⟩
  | false =>
    obtain ⟨ho, hok, hxs, k', hP⟩ := h2.live hg
    obtain ⟨e1, e2⟩ := h7 hg
    obtain ⟨c1, c2⟩ := hok.len12 h2.q.len
    have hn := hok.has.n
    have hsz := ckeepR_sz x s S b
    have hroom := hok.has.room
    have hK := h2.keep (b := b) hb.byt.bd (by omega) (by omega)
    refine (kkeep_n h1 hg B d hb.nil_ b (hb.at_ h1.at_.below) hb.old (by omega) hok.has.um hroom (by omega) (by omega) (by omega)).mono ?_
    rintro e W' ⟨rfl, nv', hN', hF, hKc⟩
    have hw := hsz.2
    rcases hK with ⟨r1, _, r3, r4⟩ | ⟨r1, _, r3, r4⟩ | ⟨r1, r3, r4⟩
    · have hl12 := (r4.live r3).2.1.len12 r4.q.len
      exact ⟨_, nv', false, n + 1, rfl, ⟨_, _, _, sd, mx, P, L ++ [b], hN', r4, r3, by omega, by omega, h6, fun _ => by rw [List.length_append]; simp only [List.length_cons, List.length_nil]; have h9 := hl12.1; rw [List.length_append] at h9; simp at h9; omega⟩, hF, hKc, .inl ⟨r1, rfl, rfl, rfl⟩⟩
    · exact ⟨_, nv', false, n, rfl, ⟨_, _, _, sd, mx, P, L, hN', r4, r3, by omega, by omega, h6, fun _ => ⟨e1, e2⟩⟩, hF, hKc, .inr (.inl ⟨r1, rfl, rfl, rfl⟩)⟩
    · exact ⟨_, nv', true, n, rfl, ⟨_, _, _, sd, mx, P, L, hN', r4, r3, by omega, by omega, h6, fun e => by cases e⟩, hF, hKc, .inr (.inr ⟨r1, rfl⟩)⟩

def SyncAns (E : Int) (gone gone' : Bool) (k n k' : Nat) : Prop := (E = 0 ∧ gone = false ∧ gone' = false ∧ k' = n) ∨ (E = 20 ∧ gone' = true ∧ k' = k)
theorem KpS.sync (h : KpS w p gs i r T k n nv gone W) (hi : i ≤ 90) :
    Calls Tryd.prog 45 #[.pointer (some ⟨r, 0, none⟩)] W fun e W' => ∃ E gone' k', e = .returned (.int .i64 E) ∧ KpS w p gs (i + 1) r T k' n nv gone' W' ∧ KeptC w.heap.size nv W W' ∧ SyncAns E gone gone' k n k' := by
  obtain ⟨x, s, S, sd, mx, P, L, h1, h2, rfl, h4, h5, h6, h7⟩ := h.ex
  cases hg : x.gone with
  | true =>
    have k6 : W.cell? ⟨r, 6, none⟩ = some (.bool true) := by
      obtain ⟨q, hv, _, a2⟩ := h1.ch
      rw [← hg]
      exact a2.st.cell 6
    refine (csync_gone r W k6).mono ?_
    rintro e W' ⟨rfl, rfl⟩
    exact ⟨20, true, k, rfl, ⟨x, s, S, sd, mx, P, L, h1, h2, hg, by omega, by omega, h6, fun e => by cases e⟩, KeptC.of (Kept.refl _ _ _) (fun t ht => ht), .inr ⟨rfl, rfl, rfl⟩⟩
  | false =>
    obtain ⟨e1, e2⟩ := h7 hg
    have hsz : Sz 0 S (csyncR x s S).2.2.2 := by
      unfold csyncR
      rw [if_neg (by rw [hg]; simp)]
      exact syncR_sz s S
    have hK := h2.sync
    refine (ksync_n h1 hg (by omega)).mono ?_
    rintro e W' ⟨rfl, hN', hKc⟩
    have hw := hsz.2
    rcases hK with ⟨r1, _, r3, r4⟩ | ⟨r1, r3, r4⟩
    · exact ⟨_, false, n, rfl, ⟨_, _, _, sd, mx, L, L, hN', r4, r3, by omega, by omega, e1, fun _ => ⟨e1, e2⟩⟩, hKc, .inl ⟨r1, rfl, rfl, rfl⟩⟩
    · exact ⟨_, true, k, rfl, ⟨_, _, _, sd, mx, P, L, hN', r4, r3, by omega, by omega, h6, fun e => by cases e⟩, hKc, .inr ⟨r1, rfl, rfl⟩⟩

def TurnAns (E : Int) (gone gone' : Bool) (T k n T' k' n' : Nat) : Prop := (E = 0 ∧ gone' = false ∧ T' = T + 1 ∧ k' = 1 ∧ n' = 1) ∨ ((E = 4 ∨ E = 18) ∧ gone = false ∧ gone' = false ∧ T' = T ∧ k' = k ∧ n' = n) ∨ (E = 20 ∧ gone' = true ∧ T' = T ∧ k' = k)
theorem KpS.turn (h : KpS w p gs i r T k n nv gone W) (hi : i ≤ 90) (B : Option Addr) (d : Nat) (b : List Int) (hb : BytN w B d b) (hbl : b.length ≤ 300) :
    Calls Tryd.prog 42 #[.pointer (some ⟨r, 0, none⟩), .slice B b.length d] W fun e W' => ∃ E nv' gone' T' k' n', e = .returned (.int .i64 E) ∧ KpS w p gs (i + 1) r T' k' n' nv' gone' W' ∧ Foot W nv nv' ∧ KeptC w.heap.size nv W W' ∧ TurnAns E gone gone' T k n T' k' n' := by
  obtain ⟨x, s, S, sd, mx, P, L, h1, h2, rfl, h4, h5, h6, h7⟩ := h.ex
  have hsz := turnR_sz x s S b (by rw [h2.q.len]; omega)
  have hK := h2.turn (by omega) (b := b) hb.byt.bd (by omega)
  have htm := h2.tm
  have hxt := h2.xt
  refine (kturn_n h1 B d hb.nil_ b (hb.at_ h1.at_.below) hb.old (by omega) h2.xsd (by omega) (by omega)).mono ?_
  rintro e W' ⟨rfl, nv', hN', hF, hKc⟩
  have hw := hsz.2
  rcases hK with ⟨r1, _, r3, r4⟩ | ⟨r1, r2, r3, r4⟩ | ⟨r1, r3, r4⟩
  · exact ⟨_, nv', false, T + 1, 1, 1, rfl, ⟨_, _, _, 1 - sd, T + 1, [b], [b], hN', r4, r3, by omega, by omega, rfl, fun _ => ⟨rfl, by omega⟩⟩, hF, hKc, .inl ⟨r1, rfl, rfl, rfl, rfl⟩⟩
  · exact ⟨_, nv', false, T, k, n, rfl, ⟨_, _, _, sd, T + 1, P, L, hN', r4, r3, by omega, by omega, h6, fun _ => h7 r2⟩, hF, hKc, .inr (.inl ⟨r1, r2, rfl, rfl, rfl, rfl⟩)⟩
  · exact ⟨_, nv', true, T, k, n, rfl, ⟨_, _, _, sd, T + 1, P, L, hN', r4, r3, by omega, by omega, h6, fun e => by cases e⟩, hF, hKc, .inr (.inr ⟨r1, rfl, rfl, rfl⟩)⟩

theorem KpS.fuse (h : KpS w p gs i r T k n nv gone W) (f : Int) (h0 : 0 ≤ f) (hf : f ≤ 9223372036854775807) :
    Calls Tryd.prog 30 #[.pointer (some ⟨p, 0, none⟩), .int .i64 f] W fun e W' => e = .returned (.tuple #[]) ∧ KpS w p gs (i + 1) r T k n nv gone W' ∧ KeptC w.heap.size nv W W' := by
  obtain ⟨x, s, S, sd, mx, P, L, h1, h2, h3, h4, h5, h6, h7⟩ := h.ex
  refine (fuse_at h1.at_ f hf).mono ?_
  rintro e W' ⟨rfl, hat, hk⟩
  obtain ⟨q, hv, a1, a2⟩ := h1.ch
  have hk2 : Kept w.heap.size sts W W' := hk.mono (by decide)
  have hm : max f 0 = f := by omega
  rw [hm] at hat
  exact ⟨rfl, ⟨x, s, _, sd, mx, P, L, ⟨hat, q, hv, fun g => (a1 g).kept hk (by decide), a2.kept hk2⟩, h2.fuse h0 hf, h3, by simp only; omega, by omega, h6, h7⟩, KeptC.sts hk2⟩

/-- The power on again: what is known of the drum. -/
structure KpD (w : World) (p gs i T k : Nat) (W : World) : Prop where
  ex : ∃ (S : DS) (mx : Nat), At w w.heap.size p gs S W ∧ S.Good ∧ S.waits = [] ∧ S.sure.length = 24 ∧ mx ≤ i ∧ ∀ T1 L1, bestP (stP S 0 24) 2 = (T1, L1) →
    T ≤ T1 ∧ T1 ≤ mx ∧ (T1 = T → k ≤ L1.length) ∧ (copenR S).1 = 0 ∧ (copenR S).2.1.gone = false ∧ ∃ sd1, KInv mx (copenR S).2.1 (copenR S).2.2.1 (copenR S).2.2.2 sd1 T1 L1 L1
theorem KpS.start (h : KpS w p gs i r T k n nv gone W) (hi : i ≤ 90) (A : Option Addr) (c : Nat) (M : List Int) (hM : BytN w A c M) (hml : M.length ≤ maxLen) :
    Calls Tryd.prog 31 #[.pointer (some ⟨p, 0, none⟩), .slice A M.length c] W fun e W' => e = .returned (.tuple #[]) ∧ KpD w p gs i T k W' ∧ KeptC w.heap.size nv W W' := by
  obtain ⟨x, s, S, sd, mx, P, L, h1, h2, h3, h4, h5, h6, h7⟩ := h.ex
  refine (start_at h1.at_ A c M (hM.at_ h1.at_.below) hM.old (by omega) hml).mono ?_
  rintro e W' ⟨rfl, hat, hk⟩
  refine ⟨rfl, ⟨_, mx, hat, start_good S M, rfl, by rw [start_len, h2.q.len], h5, fun T1 L1 hB => ?_⟩, KeptC.sts (hk.mono (by decide))⟩
  obtain ⟨g1, g2, g3, _, g5, g6, g7⟩ := h2.start M hB
  exact ⟨g1, g2, by rw [← h6]; exact g3, g5, g6, g7⟩
theorem KpD.below (h : KpD w p gs i T k W) (hb : Below W.heap.size W W') : KpD w p gs i T k W' := by
  obtain ⟨S, mx, h1, h2⟩ := h.ex
  exact ⟨S, mx, h1.after hb, h2⟩
theorem KpD.at_ (h : KpD w p gs i T k W) : Below w.heap.size w W ∧ Glob W ∧ w.heap.size ≤ W.heap.size := by
  obtain ⟨S, mx, h1, h2⟩ := h.ex
  exact ⟨h1.below, h1.glob, h1.size⟩
/-- What the drum has, and what is found there. -/
theorem KpD.bytes (h : KpD w p gs i T k W) :
    Calls Tryd.prog 49 #[.pointer (some ⟨p, 0, none⟩)] W fun e W' => ∃ (v : Value) (all : List Int), e = .returned v ∧ Own8 W.heap.size W' v all ∧ all.length = 1536 ∧ (∀ y ∈ all, 0 ≤ y ∧ y ≤ 255) ∧ Below W.heap.size W W' ∧
      ∃ (S : DS) (mx : Nat), At w w.heap.size p gs S W' ∧ S.Good ∧ S.waits = [] ∧ S.sure.length = 24 ∧ mx ≤ i ∧ ∀ T1 L1, bestP all 2 = (T1, L1) →
        T ≤ T1 ∧ T1 ≤ mx ∧ (T1 = T → k ≤ L1.length) ∧ (copenR S).1 = 0 ∧ (copenR S).2.1.gone = false ∧ ∃ sd1, KInv mx (copenR S).2.1 (copenR S).2.2.1 (copenR S).2.2.2 sd1 T1 L1 L1 := by
  obtain ⟨S, mx, h1, h2, h3, h4, h5, h6⟩ := h.ex
  obtain ⟨wv, hd⟩ := h1.drum
  refine (kbytes_any w.heap.size p gs wv S 24 W hd h2.1 h4 (by rw [h3]; simp)).mono ?_
  rintro e W' ⟨v, rfl, ho, hb⟩
  exact ⟨v, _, rfl, ho, by rw [stP_len h1.ok 0 24 (by omega)], stP_bd h1.ok 0 24 (by omega), hb, S, mx, h1.after hb, h2, h3, h4, h5, h6⟩
end
end Go.Proofs.YtohadeijmmmcdaaDoor
