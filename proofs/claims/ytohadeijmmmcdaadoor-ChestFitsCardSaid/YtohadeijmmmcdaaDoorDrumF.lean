/-
  slices.Backward over the writes that wait; the drum's now.
-/
import Derived.RangeFuncNested
import Derived.RangeFuncBound
import Derived.RangeFuncCalls
import Derived.RangeFuncLeaves
import Derived.Shelf.Abstract
import Derived.Shelf.RegionOpen
import Derived.OwnWalkIn
import Derived.TacticsInMore
import Derived.LoopNIn
import Derived.LoopIn
import Derived.Test.YtohadeijmmmcdaaDoorDrumE
namespace Go.Proofs.YtohadeijmmmcdaaDoor
open Go.RowKit Go.Shelf
set_option maxRecDepth 100000
attribute [local go_sem] Oper.semAt_some
attribute [local go_sem ↓] ld62 ld60 st62 st60 al62 al60

/-- A write, its sector made one of 64 bytes. -/
def nrm (y : Nat × List Int) : Nat × List Int := (y.1, if y.2.length = 64 then y.2 else List.replicate 64 0)
theorem nrm_len (y : Nat × List Int) : (nrm y).2.length = 64 := by
  unfold nrm; dsimp only; split <;> simp_all
theorem nrm_id {y : Nat × List Int} (h : y.2.length = 64) : nrm y = y := by simp [nrm, h]
/-- A round's two values. -/
def encW (x : Nat × (Nat × List Int)) : Array Value := #[.int .i64 (x.1 : Int), .agg (wrow (nrm x.2)).toArray]
/-- What has come when k rounds are over. -/
def backTo (l : List (Nat × List Int)) (k : Nat) : List (Nat × (Nat × List Int)) := (List.range k).map fun j => (l.length - 1 - j, l.getD (l.length - 1 - j) (0, []))
theorem backTo_succ (l : List (Nat × List Int)) (k : Nat) : backTo l (k + 1) = backTo l k ++ [(l.length - 1 - k, l.getD (l.length - 1 - k) (0, []))] := by simp [backTo, List.range_succ]
theorem backTo_len (l : List (Nat × List Int)) (k : Nat) : (backTo l k).length = k := by simp [backTo]

/-- None of those that came is of k: none of the last ones. -/
theorem backTo_mem {l : List (Nat × List Int)} {k i : Nat} (hi : i < l.length) (hk : l.length - k ≤ i) : (i, l[i]) ∈ backTo l k := by
  refine List.mem_map.2 ⟨l.length - 1 - i, List.mem_range.2 (by omega), ?_⟩
  have e : l.length - 1 - (l.length - 1 - i) = i := by omega
  rw [e]
  simp [List.getD, hi]
theorem now_none {S : DS} {k : Nat} (h : ∀ x ∈ backTo S.waits S.waits.length, x.2.1 ≠ k) : S.now k = S.sure.getD k [] := by
  refine lastAt_none k _ _ (fun y hy => ?_)
  obtain ⟨i, hi, rfl⟩ := List.getElem_of_mem hy
  exact h _ (backTo_mem hi (by omega))
theorem now_some {S : DS} {k j : Nat} {q : List (Nat × (Nat × List Int))} {x : Nat × (Nat × List Int)} (hj : j ≤ S.waits.length) (he : q ++ [x] = backTo S.waits j) (hq : ∀ y ∈ q, y.2.1 ≠ k) (hx : x.2.1 = k) : S.now k = x.2.2 ∧ x.2 ∈ S.waits := by
  cases j with
  | zero => simp [backTo] at he
  | succ j =>
    rw [backTo_succ] at he
    obtain ⟨rfl, h2⟩ := List.append_inj' he rfl
    have hlt : S.waits.length - 1 - j < S.waits.length := by omega
    simp only [List.cons.injEq, and_true] at h2
    subst h2
    have e : S.waits.getD (S.waits.length - 1 - j) (0, []) = S.waits[S.waits.length - 1 - j] := by simp [List.getD, hlt]
    simp only [e] at hx ⊢
    refine ⟨lastAt_at k _ _ _ hlt hx (fun i hi hij => ?_), List.getElem_mem _⟩
    exact hq _ (backTo_mem hi (by omega))

/-- Where what waits lies, and how it is read. -/
def WaitsAt (n₀ : Nat) (W : World) (A : Option Addr) (l : List (Nat × List Int)) : Prop :=
  ∀ i, (hi : i < l.length) → ∃ g, A = some ⟨g, 0, none⟩ ∧ g < n₀ ∧ ∀ W' : World, W'.heap[g]? = W.heap[g]? → (LDs 121 (.pointer (some ⟨g, i * 65, none⟩))).run Tryd.prog W' = .ok (.agg (wrow l[i]).toArray) W'
theorem WaitsAt.below {n₀ : Nat} {W W1 : World} {A : Option Addr} {l : List (Nat × List Int)} (h : WaitsAt n₀ W A l) (hb : Below n₀ W W1) : WaitsAt n₀ W1 A l := fun i hi => by
  obtain ⟨g, e, hg, hl⟩ := h i hi
  exact ⟨g, e, hg, fun W' hW' => hl W' (hW'.trans (hb.block g hg))⟩

set_option maxRecDepth 100000 in
set_option maxHeartbeats 2000000 in
theorem back1_in (F : Fence) (n : Nat) (h8 : F.fn 108) (hro : F.round = none) (hn : 1 ≤ n) (lp Bs n₀ cap : Nat) (A : Option Addr) (l : List (Nat × List Int)) (hlen : l.length ≤ 1000000000) (h64 : ∀ x ∈ l, x.2.length = 64) (J Jx : List (Nat × (Nat × List Int)) → World → Prop)
    (hY : ∀ pre x W, J pre W → pre.length < l.length → YieldAt F (n - 1) Tryd.prog lp (encW x) W fun e W' =>
      (e = .returned (.bool true) ∧ J (pre ++ [x]) W' ∧ Below n₀ W W') ∨ (e = .returned (.bool false) ∧ Jx (pre ++ [x]) W'))
    (W : World) (hBs : W.cell? ⟨Bs, 0, none⟩ = some (.slice A l.length cap)) (hBn : Bs < n₀) (hc : WaitsAt n₀ W A l) (h0 : J [] W) :
    CallsIn F n Tryd.prog 108 #[.func (.yield lp) #[] #[], .pointer (some ⟨Bs, 0, none⟩)] W fun e W' => (∃ v, e = .returned v) ∧
      ((∃ ys, ys = backTo l l.length ∧ J ys W') ∨ (∃ pre, (∃ k, k ≤ l.length ∧ pre = backTo l k) ∧ Jx pre W')) := by
  refine callsIn_of_wp Tryd.func108 rfl h8 ?_ hro
  simp only [Tryd.ntmps108, List.size_toArray, List.length_cons, List.length_nil, Nat.reduceAdd, Nat.reduceSub, Array.replicate_succ, Array.replicate_zero, List.push_toArray, List.append_toArray, List.nil_append, List.cons_append]
  gi_wp2
  gi_loopw [3] (fun i wr => ∃ m : Nat, m ≤ l.length ∧ i = .int .i64 ((m : Int) - 1) ∧ J (backTo l (l.length - m)) wr ∧ Below n₀ W wr)
    (fun i _ => (intOf i + 1).toNat)
  case atStart => exact ⟨l.length, Nat.le_refl _, rfl, by rw [Nat.sub_self]; exact h0, Below.refl _ _⟩
  case round =>
    obtain ⟨m, hm, rfl, hJs, hnx⟩ := hrel
    cases m with
    | zero =>
      have hd : decide ((0 : Int) ≤ ((0 : Nat) : Int) - 1) = false := by decide
      gi_wp2
      go_end0
      exact ⟨⟨_, rfl⟩, .inl ⟨_, rfl, hJs⟩⟩
    | succ m =>
      have e1 : (((m + 1 : Nat) : Int) - 1) = (m : Int) := by omega
      rw [e1]
      have hml : m < l.length := by omega
      obtain ⟨g, rfl, hg, hl⟩ := hc m hml
      have hld := hl wr (hnx.block g hg)
      have hcb : wr.cell? ⟨Bs, 0, none⟩ = some (.slice (some ⟨g, 0, none⟩) l.length cap) := (hnx.cell (p := ⟨Bs, 0, none⟩) hBn).trans hBs
      obtain ⟨fn, tmps, assign, body, hy, hR⟩ := hY _ (m, l[m]) wr hJs (by rw [backTo_len]; omega)
      dsimp only [encW] at hy
      have hge : decide ((0 : Int) ≤ (m : Int)) = true := by simp
      rw [nrm_id (h64 _ (List.getElem_mem hml))] at hy
      obtain ⟨x, hx⟩ : ∃ x, l[m] = x := ⟨_, rfl⟩
      have HX := Lib.hid hx
      rw [hx] at hld hy
      clear hl e1 hc hx
      gi_wp2
      refine hR.mono ?_
      rintro e W3 (⟨rfl, hJ3, hk3⟩ | ⟨rfl, hJx3⟩)
      · gi_wp2
        go_roundw
        case rel =>
          refine ⟨m, by omega, by go_num, ?_, hnx.trans hk3⟩
          have e2 : l.length - m = (l.length - (m + 1)) + 1 := by omega
          rw [e2, backTo_succ]
          have e3 : l.length - 1 - (l.length - (m + 1)) = m := by omega
          rw [e3]
          have e4 : l.getD m (0, []) = l[m] := by simp [List.getD, hml]
          rw [e4]
          exact hJ3
        case measure => simp [intOf]
      · gi_wp2
        refine bodyPost_ret (results_none rfl _ _ _) rfl ?_
        refine ⟨⟨_, rfl⟩, .inr ⟨_, ⟨l.length - m, by omega, ?_⟩, hJx3⟩⟩
        have e2 : l.length - m = (l.length - (m + 1)) + 1 := by omega
        rw [e2, backTo_succ]
        have e3 : l.length - 1 - (l.length - (m + 1)) = m := by omega
        rw [e3]
        have e4 : l.getD m (0, []) = l[m] := by simp [List.getD, hml]
        rw [e4]

set_option maxHeartbeats 1000000 in
theorem back_in (F : Fence) (n : Nat) (h5 : F.fn 103) (hro : F.round = none) (a : Option Addr) (len cap : Nat) (w : World) :
    CallsIn F n Tryd.prog 103 #[.slice a len cap] w fun e w' =>
      e = .returned (.func (.func 108) #[] #[.pointer (some ⟨w.heap.size, 0, none⟩)]) ∧ w' = w.alloc (.cells #[.slice a len cap] 106) := by
  refine callsIn_of_wp Tryd.func103 rfl h5 ?_ hro
  simp only [Tryd.ntmps103, List.size_toArray, List.length_cons, List.length_nil, Nat.reduceAdd, Nat.reduceSub, Array.replicate_succ, Array.replicate_zero, List.push_toArray, List.append_toArray, List.nil_append, List.cons_append]
  gi_wp2
  go_ret
  exact ⟨rfl, rfl⟩

theorem back_stops (F : Fence) (n : Nat) (h8 : F.fn 108) (hro : F.round = none) (hn : 1 ≤ n) (Bs n₀ cap : Nat) (A : Option Addr) (l : List (Nat × List Int)) (hlen : l.length ≤ 1000000000) (h64 : ∀ x ∈ l, x.2.length = 64) (w : World) (hBs : Bs < n₀) (hn₀ : n₀ ≤ w.heap.size)
    (hc : w.cell? ⟨Bs, 0, none⟩ = some (.slice A l.length cap)) (hI : WaitsAt n₀ w A l) :
    SeqStopsK F n Tryd.prog 108 #[.pointer (some ⟨Bs, 0, none⟩)] encW (Below n₀) (fun ys => ys = backTo l l.length) (fun pre => ∃ k, k ≤ l.length ∧ pre = backTo l k) l.length w := fun lp J Jx W hW _ _ hY h0 => by
  have hc' := (hW.cell (p := ⟨Bs, 0, none⟩) (Nat.lt_of_lt_of_le hBs hn₀)).trans hc
  refine (back1_in F n h8 hro hn lp Bs n₀ cap A l hlen h64 J Jx hY W hc' hBs (hI.below (hW.mono hn₀)) h0).mono ?_
  rintro e W' ⟨he, ⟨ys, rfl, hj⟩ | ⟨pre, ⟨k, hk, rfl⟩, hj⟩⟩
  · exact ⟨he, .inl ⟨_, rfl, hj⟩⟩
  · exact ⟨he, .inr ⟨_, ⟨k, hk, rfl⟩, hj⟩⟩

theorem Blk.putObj {w : World} {g : Nat} {t : TypeId} {cs : Array Value} (h : Blk w g t cs) {D : Nat} {o : Obj} (hD : w.heap[D]? = some o) (hoc : o.isCells = false) (o' : Obj) : Blk (w.putObj D o') g t cs := by
  refine (World.putObj_heap_other ?_).trans h
  rintro rfl
  rw [show w.heap[_]? = _ from h] at hD
  cases hD
  cases hoc

theorem grownBy_setRow (w : World) (g : Nat) (cs : Array Value) : w.grownBy (w.setRow g cs) (some g) :=
  ⟨rfl, rfl, rfl, by simp, fun k _ hne => setRow_other _ _ _ _ (fun e => hne (by rw [e]))⟩

theorem results_arr {P : Program} {fn : Func} {p : Tmp} {ty : TypeId} (h : fn.results = #[.cell p ty]) (tmps : Array Value) (w : World) (g : Nat) (t : TypeId) (xs : List Value) (d : TypeDesc)
    (hp : tmps.getD p undef = .pointer (some ⟨g, 0, none⟩)) (hg : Blk w g t xs.toArray) (hu : P.underlying ty = some d) (hd : isAggD d = true) (hi : (P.info? ty).map (·.size) = some xs.length) :
    (results fn tmps).run P w = .ok (.agg xs.toArray) w :=
  results_cell_row h tmps w g t xs.toArray (0, 0) d hp hg hu (by cases d <;> simp_all [isAggD]) (by simpa using hi)

set_option maxRecDepth 100000 in
set_option maxHeartbeats 4000000 in
theorem now_in (F : Fence) (n : Nat) (h3 : F.fn 90) (h4 : F.fn 103) (h5 : F.fn 108) (hro : F.round = none) (hn : 6 ≤ n)
    (B : Nat) (p gs : Nat) (wv : Value) (S : DS) (k : Nat) (w : World) (h : IsDrum B w p gs wv S) (hk : k < S.sure.length) (hlen : S.waits.length ≤ 1000000000) :
    CallsIn F n Tryd.prog 90 #[.pointer (some ⟨p, 0, none⟩), .int .i64 (k : Int)] w fun e w' => e = .returned (.agg (bys (S.now k)).toArray) ∧ Below w.heap.size w w' := by
  have h1 : 1 ≤ n := by omega
  obtain ⟨A, cap, hwv⟩ := own_form h.waits
  have c1 : w.cell? ⟨p, 1, none⟩ = some (.slice A S.waits.length cap) := by rw [← hwv]; exact h.st.c1
  have hpl : p < w.heap.size := Blk.lt h.st
  have H := Lib.hid h
  have HW := Lib.hid hwv
  obtain ⟨z, hz1, hz2⟩ := Option.map_eq_some_iff.1 z60
  have hal := ALs_new (P := Tryd.prog) (t := 119) z hz1
  obtain ⟨Z, hZ⟩ : ∃ Z, z.cells = Z := ⟨_, rfl⟩
  rw [hZ] at hal hz2
  have c1b : ((w.alloc (.cells #[.int .i64 (k : Int)] 3)).alloc (.cells Z 119)).cell? ⟨p, 1, none⟩ = some (.slice A S.waits.length cap) := by
    rw [World.cell?_alloc_lt _ _ _ (by simp; omega), World.cell?_alloc_lt _ _ _ (show p < _ from hpl)]
    exact c1
  clear h hwv hz1 hZ z
  refine callsIn_of_wp_marks Tryd.func90 rfl h3 ?_ hro
  simp only [Tryd.ntmps90, List.size_toArray, List.length_cons, List.length_nil, Nat.reduceAdd, Nat.reduceSub, Array.replicate_succ, Array.replicate_zero, List.push_toArray, List.append_toArray, List.nil_append, List.cons_append]
  gi_wp2_with (gi_at_call 103; refine (back_in F (n - 1) h4 hro _ _ _ _).mono ?_; rintro e w' ⟨rfl, rfl⟩)
  have hb0 : Blk (((w.alloc (.cells #[.int .i64 (k : Int)] 3)).alloc (.cells Z 119)).alloc (.cells #[.slice A S.waits.length cap] 106)) w.heap.size 3 #[.int .i64 (k : Int)] := ((Blk.new w _ _).alloc _).alloc _
  have hb1 : Blk (((w.alloc (.cells #[.int .i64 (k : Int)] 3)).alloc (.cells Z 119)).alloc (.cells #[.slice A S.waits.length cap] 106)) (w.heap.size + 1) 119 Z := by
    have := (Blk.new (w.alloc (.cells #[.int .i64 (k : Int)] 3)) 119 Z).alloc (.cells #[.slice A S.waits.length cap] 106)
    rw [World.size_alloc] at this
    exact this
  have hb2 : Blk (((w.alloc (.cells #[.int .i64 (k : Int)] 3)).alloc (.cells Z 119)).alloc (.cells #[.slice A S.waits.length cap] 106)) (w.heap.size + 1 + 1) 106 #[.slice A S.waits.length cap] := by
    have := Blk.new ((w.alloc (.cells #[.int .i64 (k : Int)] 3)).alloc (.cells Z 119)) 106 #[.slice A S.waits.length cap]
    rw [World.size_alloc, World.size_alloc] at this
    exact this
  have hB0 : Below w.heap.size w (((w.alloc (.cells #[.int .i64 (k : Int)] 3)).alloc (.cells Z 119)).alloc (.cells #[.slice A S.waits.length cap] 106)) := (((Below.refl _ w).alloc (Nat.le_refl _) _).alloc (by simp) _).alloc (by simp; omega) _
  have hsz : (((w.alloc (.cells #[.int .i64 (k : Int)] 3)).alloc (.cells Z 119)).alloc (.cells #[.slice A S.waits.length cap] 106)).heap.size = w.heap.size + 3 := by simp
  obtain ⟨W0, hW0⟩ : ∃ W0, ((w.alloc (.cells #[.int .i64 (k : Int)] 3)).alloc (.cells Z 119)).alloc (.cells #[.slice A S.waits.length cap] 106) = W0 := ⟨_, rfl⟩
  rw [hW0] at hb0 hb1 hb2 hB0 hsz ⊢
  clear hW0
  have hwa : WaitsAt (w.heap.size + 3) W0 A S.waits := fun i hi => by
    obtain ⟨g, cap', hsl, hg, hld⟩ := load_wait H.out.waits (fun x hx => (H.out.ok.waits x hx).2.1) i hi
    rw [HW.out] at hsl
    simp only [Value.slice.injEq] at hsl
    exact ⟨g, hsl.1, by omega, fun W' hW' => hld W' (hW'.trans (hB0.block g hg))⟩
  obtain ⟨d, hu, hd⟩ := Option.map_eq_some_iff.1 u62
  obtain ⟨z, hz1, hz3⟩ := Option.map_eq_some_iff.1 z62
  have hal2 := ALs_new (P := Tryd.prog) (t := 121) z hz1
  obtain ⟨Zw, hZw⟩ : ∃ Zw, z.cells = Zw := ⟨_, rfl⟩
  rw [hZw] at hal2 hz3
  clear hZw hz1 z
  refine wpIn_rangeFunc_ownH hro h1 (gf := 108) (lb := #[.pointer (some ⟨w.heap.size + 1 + 1, 0, none⟩)]) rfl h5 (enters_of Tryd.func108 (by kernel_rfl) rfl)
    (back_stops F (n - 1) h5 hro (by omega) (w.heap.size + 1 + 1) (w.heap.size + 3) cap A S.waits hlen (fun x hx => (H.out.ok.waits x hx).2.1) W0 (by omega) (by omega) (hb2.cell 0) hwa) belowK_t (belowK_b (by omega)) (Below.refl _ _) (fun _ => rfl)
    (fun pre W => (∀ x ∈ pre, x.2.1 ≠ k) ∧ Below (w.heap.size + 3) W0 W)
    (fun c pre W => (∃ q x, pre = q ++ [x] ∧ (∀ y ∈ q, y.2.1 ≠ k) ∧ x.2.1 = k ∧ Blk W (w.heap.size + 1) 119 (bys (nrm x.2).2).toArray ∧ c = .ret) ∧ Below w.heap.size w W)
    (OwnFrom.and (ownFrom_pure _ _) (ownFrom_below (by omega) (by omega)))
    (fun c => OwnFrom.and (Own.from (fun s X Y row hs hg hr => by
        obtain ⟨q, x, e1, e2, e3, e4, e5⟩ := hs
        refine ⟨q, x, e1, e2, e3, e4.grown hg (fun e => ?_), e5⟩
        obtain ⟨o, ho, hc⟩ := hr _ e
        rw [show X.heap[w.heap.size + 1]? = _ from e4] at ho
        cases ho
        cases hc) _) (ownFrom_below (Nat.le_refl _) (by omega)))
    ⟨(fun x hx => by cases hx), Below.refl _ _⟩
    (fun x a' W => ∃ Bx, w.heap.size + 3 ≤ Bx ∧ Blk W Bx 121 (wrow (nrm x.2)).toArray ∧ a' = { tmps := #[.pointer (some ⟨p, 0, none⟩), .int .i64 (k : Int), undef, .pointer (some ⟨w.heap.size, 0, none⟩), .pointer (some ⟨w.heap.size + 1, 0, none⟩), undef, .pointer (some ⟨Bx, 0, none⟩), .pointer (some ⟨p, 0, none⟩), .pointer (some ⟨p, 0, none⟩), .pointer (some ⟨p, 1, none⟩), .slice A S.waits.length cap, .func (.func 108) #[] #[.pointer (some ⟨w.heap.size + 1 + 1, 0, none⟩)], .int .i64 (x.1 : Int), .agg (wrow (nrm x.2)).toArray, undef, undef, undef, undef, undef, undef, undef, undef, undef, undef, undef, undef, undef], defers := [] })
    (fun x a' _ X Y row hs hg hr => by
        obtain ⟨Bx, e1, e2, e3⟩ := hs
        refine ⟨Bx, e1, e2.grown hg (fun e => ?_), e3⟩
        obtain ⟨o, ho, hc⟩ := (hr _ e).2
        rw [show X.heap[Bx]? = _ from e2] at ho
        cases ho
        cases hc)
    ?assign ?body ?done ?stop
  case assign =>
    rintro l pre x W K ⟨hI, hbl⟩ hK
    have hst := STs_new (P := Tryd.prog) (t := 121) i62 W Zw hz3 (wrow (nrm x.2)) (wrow_len (nrm_len _)) (wrow_one _)
    have hK' := hK { tmps := #[.pointer (some ⟨p, 0, none⟩), .int .i64 (k : Int), undef, .pointer (some ⟨w.heap.size, 0, none⟩), .pointer (some ⟨w.heap.size + 1, 0, none⟩), undef, .pointer (some ⟨W.heap.size, 0, none⟩), .pointer (some ⟨p, 0, none⟩), .pointer (some ⟨p, 0, none⟩), .pointer (some ⟨p, 1, none⟩), .slice A S.waits.length cap, .func (.func 108) #[] #[.pointer (some ⟨w.heap.size + 1 + 1, 0, none⟩)], .int .i64 (x.1 : Int), .agg (wrow (nrm x.2)).toArray, undef, undef, undef, undef, undef, undef, undef, undef, undef, undef, undef, undef, undef], defers := [] } (W.alloc (.cells (wrow (nrm x.2)).toArray 121))
      ((KeepsOthers.alloc _ _).from _) ((Below.refl _ W).alloc (by have := hbl.size; omega) _) ⟨hI, hbl.alloc (by have := hbl.size; omega) _⟩ ⟨W.heap.size, by have := hbl.size; omega, Blk.new W _ _, rfl⟩
    clear hK
    simp only [encW]
    gi_wp2
    exact hK'
  case body =>
    rintro l pre x a' W hl ⟨r, hr⟩ ⟨hI, hbl⟩ ⟨Bx, hBx, bX, rfl⟩ hlt
    have cX : W.cell? ⟨Bx, 0, none⟩ = some (.int .i64 (x.2.1 : Int)) := bX.cell 0
    have hbw : Below w.heap.size w W := hB0.trans (hbl.mono (by omega))
    have cK : W.cell? ⟨w.heap.size, 0, none⟩ = some (.int .i64 (k : Int)) := (hbl.cell (p := ⟨w.heap.size, 0, none⟩) (show w.heap.size < _ by omega)).trans (hb0.cell 0)
    have bR : Blk W (w.heap.size + 1) 119 Z := (hbl.block _ (by omega)).trans hb1
    have hldx : (LDs 119 (.pointer (some ⟨Bx, 1, none⟩))).run Tryd.prog W = .ok (.agg (bys (nrm x.2).2).toArray) W :=
      LDs_blk u54 rfl i60 bX (bys (nrm x.2).2) (by rw [bys_length, nrm_len]) (by simp [wrow, bys_length, nrm_len, List.take_of_length_le])
    have hstr := STs_blk (P := Tryd.prog) (t := 119) i60 bR (off := 0) (bys (nrm x.2).2) (by rw [bys_length, nrm_len]) (by omega) (bys_one _)
    rw [splice_whole _ _ (by rw [bys_length, nrm_len, hz2])] at hstr
    by_cases hx : x.2.1 = k
    · have hxx : (k : Int) = (x.2.1 : Int) := by omega
      rw [hxx] at cK
      have HX := Lib.hid hx
      have HI := Lib.hid hI
      have HBW := Lib.hid hbw
      have HBR := Lib.hid bR
      clear hx hxx hI hbw hbl bR bX hb0 hb1 hb2 hB0 hal hal2 hwa
      gi_wp2
      refine ⟨?_, ⟨pre, x, rfl, HI.out, HX.out, HBR.out.row_ _, rfl⟩, ?_⟩
      · refine KeepsOthers.from (KeepsOthers.of_grownBy (grownBy_setRow _ _ _) (fun j o e ho => ?_)) _
        cases e
        rw [show W.heap[w.heap.size + 1]? = _ from HBR.out] at ho
        cases ho
        rfl
      · exact HBW.out.grown (grownBy_setRow _ _ _) HBW.out.size (fun j e => by cases e; omega)
    · have hne : ((x.2.1 : Int) == (k : Int)) = false := by simpa using (show ¬ (x.2.1 : Int) = (k : Int) by omega)
      have hne2 : (x.2.1 == k) = false := by simpa using hx
      have HI := Lib.hid hI
      have HBL := Lib.hid hbl
      have HX := Lib.hid hx
      clear hx hI hbw hbl bR bX hb0 hb1 hb2 hB0 hal hal2 hwa hstr hldx
      gi_wp2
      refine ⟨KeepsFrom.refl _ _, Below.refl _ _, ?_, HBL.out⟩
      intro y hy
      simp only [List.mem_append, List.mem_singleton] at hy
      rcases hy with hy | rfl
      · exact HI.out y hy
      · exact HX.out
  case done =>
    rintro D zs W hD rfl ⟨hI, hbl⟩ hK
    have hbw : Below w.heap.size w W := hB0.trans (hbl.mono (by omega))
    have c0 : W.drew.cell? ⟨p, 0, none⟩ = some (.slice (some ⟨gs, 0, none⟩) S.sure.length S.sure.length) := (hbw.cell (p := ⟨p, 0, none⟩) hpl).trans H.out.st.c0
    have cK : W.drew.cell? ⟨w.heap.size, 0, none⟩ = some (.int .i64 (k : Int)) := (hbl.cell (p := ⟨w.heap.size, 0, none⟩) (show w.heap.size < _ by omega)).trans (hb0.cell 0)
    have bR : Blk W.drew (w.heap.size + 1) 119 Z := (hbl.block _ (by omega)).trans hb1
    have bS : Blk W.drew gs 119 (bys S.sure.flatten).toArray := (hbw.block _ H.out.sure.lt).trans H.out.sure
    have h64 : ∀ s ∈ S.sure, s.length = 64 := fun s hs => (H.out.ok.sure s hs).1
    have hs64 : S.sure[k].length = 64 := h64 _ (List.getElem_mem _)
    have hld : (LDs 119 (.pointer (some ⟨gs, k * 64, none⟩))).run Tryd.prog W.drew = .ok (.agg (bys S.sure[k]).toArray) W.drew :=
      LDs_blk u54 rfl i60 bS (bys S.sure[k]) (by rw [bys_length, hs64]) (by simp only; rw [bys_drop, bys_take, flat_drop_take 64 _ h64 k hk])
    have hstr := STs_blk (P := Tryd.prog) (t := 119) i60 bR (off := 0) (bys S.sure[k]) (by rw [bys_length, hs64]) (by omega) (bys_one _)
    rw [splice_whole _ _ (by rw [bys_length, hs64, hz2])] at hstr
    have hk1 : (k : Int) < (S.sure.length : Int) := by omega
    obtain ⟨sk, hsk⟩ : ∃ sk, S.sure[k] = sk := ⟨_, rfl⟩
    have hnow := now_none hI
    have e : S.sure.getD k [] = sk := by rw [← hsk]; simp [List.getD, hk]
    rw [e] at hnow
    rw [hsk] at hld hstr hs64
    have HN := Lib.hid hnow
    have HK := Lib.hid hK
    have HBW := Lib.hid hbw
    have HBR := Lib.hid bR
    have H64 := Lib.hid hs64
    clear hsk e hI hbl hbw bR bS h64 hs64 hnow hK hb0 hb1 hb2 hB0 hal hal2 hwa
    gi_wp2
    gi_region
    all_goals
      gi_wp2
      have hbR' := HBR.out.row_ (bys sk).toArray
      have hD1 : D ≠ w.heap.size + 1 := fun e => by
        have h1 := HK.out
        rw [e] at h1
        rw [show W.heap[w.heap.size + 1]? = _ from HBR.out] at h1
        cases h1
      have hK2 : (W.drew.setRow (w.heap.size + 1) (bys sk).toArray).heap[D]? = some (.deferred (some [])) := (setRow_other _ _ _ _ hD1).trans HK.out
      refine ⟨by simp, .inl ⟨_, _, rfl, run_takeDeferred hK2, ?_⟩⟩
      refine ⟨_, results_arr rfl _ _ (w.heap.size + 1) 119 (bys sk) _ rfl (hbR'.putObj hK2 rfl _) u54 rfl (by rw [bys_length, H64.out]; exact i60), ?_, ?_⟩
      · rw [HN.out]
      · have hb3 : Below w.heap.size w (W.drew.setRow (w.heap.size + 1) (bys sk).toArray) := HBW.out.drew.grown (grownBy_setRow _ _ _) HBW.out.size (fun j e => by cases e; omega)
        exact hb3.trans (belowK_b (w := w) (Nat.le_refl _) _ D _ _ (by omega) hK2 rfl rfl)
  case stop =>
    rintro D c pre W hD ⟨j, hj, hpj⟩ ⟨⟨q, x, rfl, hq, hx, hbx, rfl⟩, hbl⟩ hK
    obtain ⟨hnow, hmem⟩ := now_some hj hpj hq hx
    have hn := nrm_id (H.out.ok.waits _ hmem).2.1
    gi_wp2
    refine ⟨by simp, .inl ⟨_, _, rfl, run_takeDeferred hK, ?_⟩⟩
    refine ⟨_, results_arr rfl _ _ (w.heap.size + 1) 119 (bys (nrm x.2).2) _ rfl (hbx.putObj hK rfl _) u54 rfl (by rw [bys_length, nrm_len]; exact i60), ?_, hbl.trans (belowK_b (w := w) (Nat.le_refl _) W D _ _ (by omega) hK rfl rfl)⟩
    rw [hnow, hn]

end Go.Proofs.YtohadeijmmmcdaaDoor
