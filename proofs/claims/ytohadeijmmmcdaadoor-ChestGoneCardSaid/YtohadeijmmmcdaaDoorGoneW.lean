/-
  ScrollGone: the walk.
-/
import Derived.Test.YtohadeijmmmcdaaDoorLawS
import Derived.Test.YtohadeijmmmcdaaDoorOpenD
import Derived.Test.YtohadeijmmmcdaaDoorOtherW
namespace Go.Proofs.YtohadeijmmmcdaaDoor
open Go.RowKit
set_option maxRecDepth 100000

theorem recS_one {a : Int} {t n : Nat} (ht : t < 256) (hn : n < 256) : recS t n [a] = 1 := by
  unfold recS secP
  rw [fieldsP_len]
  have h1 := numP_len2 ht
  have h2 := numP_len2 hn
  have h3 : (numP [a].length).length ≤ 2 := numP_len2 (by simp)
  simp only [List.length_cons, List.length_nil] at h3 ⊢
  omega

/-- A record of one sector that is put while the fuse burns down. -/
theorem putR_fuse1 {s : SS} {S : DS} {b : List Int} (hg : s.gone = false) (hoff : S.off = false) (hf : S.fuse = 1) (he : formE s.t s.n b = 0) (hk : recS s.t s.n b = 1) (hm : s.u + 1 ≤ s.m) (hr : s.f + s.m ≤ S.sure.length) :
    putR s S b = (20, { s with gone := true }, { S with fuse := 0, off := true }) := by
  have hF : ((formP s.t s.n b).drop (64 * 0)).take 64 = formP s.t s.n b := by
    have : (formP s.t s.n b).length = 64 := by rw [formP_len]; unfold recS at hk; rw [hk]
    simp [List.take_of_length_le (Nat.le_of_eq this)]
  have hl : (formP s.t s.n b).length = 64 := by rw [formP_len]; unfold recS at hk; rw [hk]
  have hw : S.write ((s.f + s.u + 0 : Nat) : Int) (formP s.t s.n b) = (20, { S with fuse := 0, off := true }) := by
    unfold DS.write
    rw [if_neg (by simp [hoff]), if_neg (by omega), if_neg (by omega), if_pos hf]
  have hp : putGo (formP s.t s.n b) (s.f + s.u) 1 0 S = (20, { S with fuse := 0, off := true }) := by
    rw [putGo_succ, hF, hw]
    rfl
  unfold putR
  rw [if_neg (by rw [hg]; simp), if_neg (by rw [he]; simp), hk, if_neg (by omega), hp]
  rfl
theorem putR_fuse2 {s : SS} {S : DS} {b : List Int} (hg : s.gone = false) (hoff : S.off = false) (hf : S.fuse = 2) (he : formE s.t s.n b = 0) (hk : recS s.t s.n b = 1) (hm : s.u + 1 ≤ s.m) (hr : s.f + s.m ≤ S.sure.length) :
    putR s S b = (0, { s with u := s.u + 1, n := s.n + 1 }, { S with fuse := 1, waits := S.waits ++ [(s.f + s.u, formP s.t s.n b)] }) := by
  have hl : (formP s.t s.n b).length = 64 := by rw [formP_len]; unfold recS at hk; rw [hk]
  have hF : ((formP s.t s.n b).drop (64 * 0)).take 64 = formP s.t s.n b := by
    simp [List.take_of_length_le (Nat.le_of_eq hl)]
  have hw : S.write ((s.f + s.u + 0 : Nat) : Int) (formP s.t s.n b) = (0, { S with fuse := 1, waits := S.waits ++ [(s.f + s.u, formP s.t s.n b)] }) := by
    unfold DS.write
    rw [if_neg (by simp [hoff]), if_neg (by omega), if_neg (by omega), if_neg (by omega)]
    simp [hf, dec]
    omega
  have hp : putGo (formP s.t s.n b) (s.f + s.u) 1 0 S = (0, { S with fuse := 1, waits := S.waits ++ [(s.f + s.u, formP s.t s.n b)] }) := by
    rw [putGo_succ, hF, hw]
    simp only [if_true]
    rw [putGo_zero]
  unfold putR
  rw [if_neg (by rw [hg]; simp), if_neg (by rw [he]; simp), hk, if_neg (by omega), hp]
  rfl
theorem syncR_fuse1 {s : SS} {S : DS} (hg : s.gone = false) (hoff : S.off = false) (hf : S.fuse = 1) : syncR s S = (20, { s with gone := true }, { S with fuse := 0, off := true }) := by
  unfold syncR
  rw [if_neg (by rw [hg]; simp)]
  have : S.sync = (20, { S with fuse := 0, off := true }) := by
    unfold DS.sync
    rw [if_neg (by simp [hoff]), if_pos hf]
  rw [this]
  rfl

/-- One byte laid in a block of its own. -/
theorem one_byte (W : World) {x : Int} (hx : 0 ≤ x ∧ x ≤ 255) : Byt (W.alloc (.cells #[.int .u8 x] 5)) (some ⟨W.heap.size, 0, none⟩) [x] ∧ Below W.heap.size W (W.alloc (.cells #[.int .u8 x] 5)) :=
  ⟨(Blk.new W 5 (bys [x]).toArray).byt (by intro y hy; simp at hy; subst hy; exact hx), (Below.refl _ W).alloc (Nat.le_refl _) _⟩

theorem OwnT.at_ {B : Nat} {w : World} {v : Value} {L : List (List Int)} (h : OwnT B w v L) {i : Nat} (hi : i < L.length) : ∃ g cap x, v = .slice (some ⟨g, 0, none⟩) L.length cap ∧ B ≤ g ∧ g < w.heap.size ∧ w.cell? ⟨g, i, none⟩ = some x ∧ Own8 B w x L[i] := by
  obtain ⟨xs, h1, h2, h3⟩ := h
  obtain ⟨g, cap, e, hb, hg, hc⟩ := own_cells h1 (by omega)
  have := hc i xs[i] (by simp [show i < xs.length by omega])
  rw [Nat.zero_add] at this
  exact ⟨g, cap, _, e, hb, hg, this, h3 i (by omega) hi⟩

set_option maxHeartbeats 8000000 in
theorem gone_law (a b n : Int) (w : World) (ha : 0 ≤ a ∧ a ≤ 255) (hb : 0 ≤ b ∧ b ≤ 255) (hn : 0 ≤ n ∧ n ≤ 255) (hg : Glob w) :
    Calls Tryd.prog 7 #[.int .u8 a, .int .u8 b, .int .u8 n] w fun e w' => e = .returned (.bool true) ∧ Below w.heap.size w w' := by
  have f3 := new_drum 10 w (by omega) (by omega)
  rw [show ((10 : Nat) : Int) = 10 from rfl] at f3
  have hn0 := hn.1
  have hn1 := hn.2
  have HA := Lib.hid ha
  have HB := Lib.hid hb
  have HG := Lib.hid hg
  clear ha hb hn hg
  go_enter Tryd.func7, Tryd.ntmps7
  go_wp2_with fail
  with_reducible refine f3.mono ?_
  rintro e w3 ⟨rfl, d3, c3⟩
  have at3 := At.new HG.out HG.out.size (Below.refl _ _) 10 d3 c3
  have n3 : (DS.new 10).sure.length = 10 := by simp [DS.new]
  have m3 : (DS.new 10).waits.length = 0 := rfl
  have f4 := blank_has at3 (DS.new_good 10) 0 10 1 (by omega) (by omega) (by omega)
  rw [show ((0 : Nat) : Int) = 0 from rfl, show ((10 : Nat) : Int) = 10 from rfl, show ((1 : Nat) : Int) = 1 from rfl] at f4
  obtain ⟨D0, hD0⟩ : ∃ D, DS.new 10 = D := ⟨_, rfl⟩
  rw [hD0] at f4 n3 m3
  clear f3 d3 at3 hD0
  have hs3 : w.heap.size ≤ w3.heap.size := c3.size
  clear c3
  go_wp2_with fail
  with_reducible refine f4.mono ?_
  rintro e w4 ⟨q, S4, rfl, s4, hq, at4, H4, l4, r4, _, _⟩
  have pq := peq37 q
  rw [m3, Nat.zero_add] at l4
  rw [n3] at r4
  have hqB : w.heap.size ≤ q := by omega
  obtain ⟨y5, b5⟩ := one_byte w4 HA.out
  have at5 := at4.after b5
  have s5 : IsScroll (w4.alloc (.cells #[.int .u8 a] 5)) q (w.heap.size + 1) ⟨0, 10, 1, 0, 0, false⟩ := s4.alloc _
  have hrs := recS_one (a := a) (t := 1) (n := 0) (by omega) (by omega)
  have f5 := put_has at5 s5 hqB H4 (some ⟨w4.heap.size, 0, none⟩) 1 [a] y5 (by simp) (by simp) (formE_small (t := 1) (n := 0) (by omega) (by omega) (by simp)) (by simp only; rw [hrs]; omega) (by omega)
  simp only [hrs] at f5
  rw [show ([a] : List Int).length = 1 from rfl] at f5
  clear f4 s4 at4 H4 hq n3 m3 y5 b5 at5 s5
  go_wp2_with fail
  with_reducible refine f5.mono ?_
  rintro e w5 ⟨rfl, S5, s5, at5, H5, l5, r5, _, _⟩
  have f6 := ssync_has at5 s5 hqB H5 (by omega)
  clear f5 s5 at5 H5
  go_wp2_with fail
  with_reducible refine f6.mono ?_
  rintro e w6 ⟨rfl, s6, at6, H6, _⟩
  obtain ⟨S6, hS6⟩ : ∃ S, ({ S5 with sure := applyAll S5.sure S5.waits, waits := [] } : DS) = S := ⟨_, rfl⟩
  have hw6 : S6.waits = [] := by rw [← hS6]
  rw [hS6] at at6 H6
  have hr6 : S6.sure.length = 10 := by rw [← hS6]; simp only; rw [applyAll_len, r5, r4]
  clear f6 hS6
  simp only [List.nil_append, Nat.zero_add] at s6 H6
  have hoff6 := H6.good.1
  have hfu6 := H6.good.2
  have hSS6 : ({ sure := S6.sure, waits := [], fuse := 0, off := false } : DS) = S6 := by
    obtain ⟨a1, a2, a3, a4⟩ := S6
    simp only at hw6 hoff6 hfu6 ⊢
    rw [hw6, hoff6, hfu6]
  have hpar : n % 2 = 1 ∨ n % 2 = 0 := by omega
  have S6h := Lib.hid s6
  have A6h := Lib.hid at6
  have H6h := Lib.hid H6
  have HW6 := Lib.hid hw6
  have HSS := Lib.hid hSS6
  have HO6 := Lib.hid hoff6
  have HF6 := Lib.hid hfu6
  clear s6 at6 H6 hw6 hSS6 hoff6 hfu6 hrs
  rcases hpar with hpar | hpar
  focus
    have f7 := fuse_at A6h.out 2 (by omega)
    rw [show max (2 : Int) 0 = 2 from rfl] at f7
    go_wp2_with fail
    with_reducible refine f7.mono ?_
    rintro e w7 ⟨rfl, at7, k7⟩
    have s7 := S6h.out.kept k7 (by decide)
    obtain ⟨y8, b8⟩ := one_byte w7 HB.out
    have hE : putR ⟨0, 10, 1, 1, 1, false⟩ { S6 with fuse := 2 } [b] = (0, ⟨0, 10, 1, 2, 2, false⟩, { S6 with fuse := 1, waits := S6.waits ++ [(0 + 1, formP 1 1 [b])] }) :=
      putR_fuse2 rfl HO6.out rfl (formE_small (t := 1) (n := 1) (by omega) (by omega) (by simp)) (recS_one (t := 1) (n := 1) (by omega) (by omega)) (by simp) (by simp only; omega)
    have f8 := put_at (at7.after b8) (s7.alloc _) hqB (some ⟨w7.heap.size, 0, none⟩) 1 (by simp) [b] y8 (by simp) (by simp only; omega) (by simp) (by simp only; rw [HW6.out]; simp) (by simp)
    rw [hE] at f8
    rw [show ([b] : List Int).length = 1 from rfl] at f8
    clear f7 at7 k7 s7 y8 b8 hE
    go_wp2_with fail
    with_reducible refine f8.mono ?_
    rintro e w8 ⟨rfl, s8, at8, _⟩
    have hE9 : syncR ⟨0, 10, 1, 2, 2, false⟩ { S6 with fuse := 1, waits := S6.waits ++ [(0 + 1, formP 1 1 [b])] } = (20, ⟨0, 10, 1, 2, 2, true⟩, { S6 with fuse := 0, off := true, waits := S6.waits ++ [(0 + 1, formP 1 1 [b])] }) := syncR_fuse1 rfl HO6.out rfl
    have f9 := ssync_at at8 s8 hqB (by simp only; rw [HW6.out]; simp)
    rw [hE9] at f9
    clear f8 s8 at8 hE9
    go_wp2_with fail
    with_reducible refine f9.mono ?_
    rintro e w9 ⟨rfl, s9, at9, _⟩
    obtain ⟨X, hX⟩ : ∃ X, (⟨0, 10, 1, 2, 2, true⟩ : SS) = X := ⟨_, rfl⟩
    have hXg : X.gone = true := by rw [← hX]
    have hXm : X.u ≤ X.m ∧ X.f + X.m ≤ 10 ∧ X.n ≤ 1099511627776 := by rw [← hX]; simp
    rw [hX] at s9
    obtain ⟨S9, hS9⟩ : ∃ S, ({ S6 with fuse := 0, off := true, waits := S6.waits ++ [(0 + 1, formP 1 1 [b])] } : DS) = S := ⟨_, rfl⟩
    have hS9w : S9.waits.length ≤ 1 := by rw [← hS9]; simp only; rw [HW6.out]; simp
    have hS9s : S9.sure = S6.sure := by rw [← hS9]
    rw [hS9] at at9
    clear f9 hX hS9
  rotate_left
  focus
    have f7 := fuse_at A6h.out 1 (by omega)
    rw [show max (1 : Int) 0 = 1 from rfl] at f7
    go_wp2_with fail
    with_reducible refine f7.mono ?_
    rintro e w7 ⟨rfl, at7, k7⟩
    have s7 := S6h.out.kept k7 (by decide)
    obtain ⟨y8, b8⟩ := one_byte w7 HB.out
    have hE : putR ⟨0, 10, 1, 1, 1, false⟩ { S6 with fuse := 1 } [b] = (20, ⟨0, 10, 1, 1, 1, true⟩, { S6 with fuse := 0, off := true }) :=
      putR_fuse1 rfl HO6.out rfl (formE_small (t := 1) (n := 1) (by omega) (by omega) (by simp)) (recS_one (t := 1) (n := 1) (by omega) (by omega)) (by simp) (by simp only; omega)
    have f8 := put_at (at7.after b8) (s7.alloc _) hqB (some ⟨w7.heap.size, 0, none⟩) 1 (by simp) [b] y8 (by simp) (by simp only; omega) (by simp) (by simp only; rw [HW6.out]; simp) (by simp)
    rw [hE] at f8
    rw [show ([b] : List Int).length = 1 from rfl] at f8
    clear f7 at7 k7 s7 y8 b8 hE
    go_wp2_with fail
    with_reducible refine f8.mono ?_
    rintro e w9 ⟨rfl, s9, at9, _⟩
    obtain ⟨X, hX⟩ : ∃ X, (⟨0, 10, 1, 1, 1, true⟩ : SS) = X := ⟨_, rfl⟩
    have hXg : X.gone = true := by rw [← hX]
    have hXm : X.u ≤ X.m ∧ X.f + X.m ≤ 10 ∧ X.n ≤ 1099511627776 := by rw [← hX]; simp
    rw [hX] at s9
    obtain ⟨S9, hS9⟩ : ∃ S, ({ S6 with fuse := 0, off := true } : DS) = S := ⟨_, rfl⟩
    have hS9w : S9.waits.length ≤ 1 := by rw [← hS9]; simp only; rw [HW6.out]; simp
    have hS9s : S9.sure = S6.sure := by rw [← hS9]
    rw [hS9] at at9
    clear f8 hX hS9
  all_goals
    have f10 := put_at at9 s9 hqB none 0 (fun _ => rfl) [] (Byt.nil _ _) hXm.1 (by rw [hS9s, hr6]; exact hXm.2.1) hXm.2.2 (by omega) (by simp)
    rw [putR_gone hXg] at f10
    rw [show ([] : List Int).length = 0 from rfl] at f10
    have HXm := Lib.hid hXm
    clear s9 hXm
    go_wp2_with fail
    with_reducible refine f10.mono ?_
    rintro e w10 ⟨rfl, s10, at10, _⟩
    have f11 := ssync_at at10 s10 hqB (by omega)
    rw [syncR_gone hXg] at f11
    clear f10 at9 at10 s10
    go_wp2_with fail
    with_reducible refine f11.mono ?_
    rintro e w11 ⟨rfl, s11, at11, _⟩
    have y12 : Byt (w11.alloc (.cells #[.int .u8 0, .int .u8 0, .int .u8 0] 5)) (some ⟨w11.heap.size, 0, none⟩) [0, 0, 0] := (Blk.new w11 5 (bys [0, 0, 0]).toArray).byt (by intro x hx; simp at hx; omega)
    have b12 : Below w11.heap.size w11 (w11.alloc (.cells #[.int .u8 0, .int .u8 0, .int .u8 0] 5)) := (Below.refl _ w11).alloc (Nat.le_refl _) _
    have at12 := at11.after b12
    have s12 : IsScroll (w11.alloc (.cells #[.int .u8 0, .int .u8 0, .int .u8 0] 5)) q (w.heap.size + 1) X := s11.alloc _
    have hst : S9.start [0, 0, 0] = S6 := by
      rw [start_none at12.ok (fun j hj => by
        obtain rfl : j = 0 := by omega
        rfl), hS9s]
      exact HSS.out
    have f13 := start_at at12 (some ⟨w11.heap.size, 0, none⟩) 3 [0, 0, 0] y12 (fun a ha _ => .inr (by cases ha; exact ⟨_, Blk.new w11 _ _⟩)) (by omega) (by unfold maxLen; simp)
    rw [hst] at f13
    rw [show ([0, 0, 0] : List Int).length = 3 from rfl] at f13
    have S12h := Lib.hid s12
    clear f11 at11 s11 y12 b12 at12 s12 hst
    go_wp2_with fail
    with_reducible refine f13.mono ?_
    rintro e w13 ⟨rfl, at13, k13⟩
    have s13 := S12h.out.kept k13 (by decide)
    have f14 := put_at at13 s13 hqB none 0 (fun _ => rfl) [] (Byt.nil _ _) HXm.out.1 (by rw [hr6]; exact HXm.out.2.1) HXm.out.2.2 (by rw [HW6.out]; simp) (by simp)
    rw [putR_gone hXg] at f14
    rw [show ([] : List Int).length = 0 from rfl] at f14
    clear f13 at13 k13 s13
    go_wp2_with fail
    with_reducible refine f14.mono ?_
    rintro e w14 ⟨rfl, s14, at14, _⟩
    have f15 := scan_has at14 H6h.out (by rw [HW6.out]; simp)
    simp only at f15
    rw [show ((0 : Nat) : Int) = 0 from rfl, show ((10 : Nat) : Int) = 10 from rfl, show ((1 : Nat) : Int) = 1 from rfl] at f15
    clear f14 s14 at14
    go_wp2_with fail
    with_reducible refine f15.mono ?_
    rintro e w15 ⟨v15, rfl, o15, at15, c15⟩
    obtain ⟨A15, d15, rfl⟩ := o15.form
    obtain ⟨g, cap, x, e1, _, hgs, hcx, hox⟩ := o15.at_ (i := 0) (by simp)
    rw [show ([[a]] : List (List Int)).length = 1 from rfl] at e1 ⊢
    simp only [Value.slice.injEq] at e1
    obtain ⟨rfl, _, rfl⟩ := e1
    simp only [List.getElem_cons_zero] at hox
    obtain ⟨Ax, cx, rfl, hyx, _, _⟩ := hox.byt (by intro y hy; simp at hy; subst hy; exact HA.out)
    obtain ⟨y16, b16⟩ := one_byte w15 HA.out
    have f16 := bytes_any Ax (some ⟨w15.heap.size, 0, none⟩) cx 1 [a] [a] _ (hyx.below b16) y16 (by simp) (by simp)
    rw [show ([a] : List Int).length = 1 from rfl, decide_eq_true rfl] at f16
    rw [show ([a] : List Int).length = 1 from rfl] at hcx
    have at16 := at15.after b16
    clear f15 o15 at15 c15 hox hyx y16 b16
    go_wp2_with fail
    with_reducible refine f16.mono ?_
    rintro e w17 ⟨rfl, m17, hw17⟩
    have at17 := at16.after (W' := w17) (by rw [hw17]; exact below_drewN (Below.refl _ _) _)
    have aw := awake13 w17 at17.glob
    have AT17 := Lib.hid at17
    clear f16 at16 hw17 at17
    go_wp2_with fail
    with_reducible refine aw.mono ?_
    rintro e w18 ⟨rfl, c18⟩
    have C18 := Lib.hid c18
    clear c18 aw
    go_wp2_with fail
    go_ret
    exact ⟨rfl, AT17.out.below.trans (C18.out.mono AT17.out.below.size)⟩

end Go.Proofs.YtohadeijmmmcdaaDoor
