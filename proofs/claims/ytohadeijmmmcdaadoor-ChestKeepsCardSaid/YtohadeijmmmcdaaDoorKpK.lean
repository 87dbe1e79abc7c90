/-
  What was put under a turn (seisinlaw14.try), and seisinlaw14.known.
-/
import Derived.Test.YtohadeijmmmcdaaDoorChM
import Derived.Test.YtohadeijmmmcdaaDoorKpB
import Derived.BigQuiet
import Derived.Deep.QuietTactic
namespace Go.Proofs.YtohadeijmmmcdaaDoor
open Go Go.RowKit Machine
set_option maxRecDepth 100000

theorem u91 : Tryd.prog.underlying 91 = some (.slice 90) := by kernel_rfl
theorem i90 : (Tryd.prog.info? 90).map (fun i => (i.zero.map (·.cells.size), i.size, i.bytes)) = some (some 2, 2, 32) := by kernel_rfl

/-- One try's cells. -/
def TryC (B : Nat) (nv : Value) (w : World) (xs : List Value) (j : Nat) (x : Int × List (List Int)) : Prop :=
  ∃ A c, xs[2 * j]? = some (.int .i64 x.1) ∧ xs[2 * j + 1]? = some (.slice A x.2.length c) ∧ ChT B w A c x.2 ∧ (∀ a, A = some a → 0 < x.2.length → nv.ownBlock ≠ some a.block)
/-- A row of tries of one's own. -/
def TrV (B : Nat) (nv : Value) (w : World) (v : Value) (ts : List (Int × List (List Int))) : Prop :=
  ∃ xs, w.ownsRow B 90 2 v ts.length xs ∧ ∀ i (h : i < ts.length), TryC B nv w xs i ts[i]

theorem ChT.one {n₀ : Nat} {w : World} {A : Option Addr} {c : Nat} {L : List (List Int)} (h : ChT n₀ w A c L) {a : Addr} (ha : A = some a) (h0 : 0 < L.length) : ∃ g o, a = ⟨g, o, none⟩ := by
  obtain ⟨xs, h1, _⟩ := h.ex
  obtain ⟨g, o, e, _⟩ := h1.cell (by rw [h1.len]; exact h0)
  rw [ha] at e
  cases e
  exact ⟨g, o, rfl⟩

section
variable {B : Nat} {nv : Value} {w w' : World} {v : Value} {ts : List (Int × List (List Int))}
theorem TrV.form (h : TrV B nv w v ts) : ∃ A c, v = .slice A ts.length c := by obtain ⟨xs, h1, _⟩ := h; exact own_form h1
theorem TrV.cells (h : TrV B nv w v ts) (h0 : 0 < ts.length) : ∃ g c, v = .slice (some ⟨g, 0, none⟩) ts.length c ∧ B ≤ g ∧ g < w.heap.size ∧ (∀ j, w.frozen? ⟨g, j, none⟩ = false) ∧
    ∀ i (h : i < ts.length), ∃ A d, w.cell? ⟨g, 2 * i, none⟩ = some (.int .i64 ts[i].1) ∧ w.cell? ⟨g, 2 * i + 1, none⟩ = some (.slice A ts[i].2.length d) ∧ ChT B w A d ts[i].2 ∧ (∀ a, A = some a → 0 < ts[i].2.length → nv.ownBlock ≠ some a.block) := by
  obtain ⟨xs, h1, h2⟩ := h
  obtain ⟨A, c, rfl⟩ := own_form h1
  rcases h1.2 with ⟨_, e⟩ | ⟨g, cap, cur, e, hb, hg, _⟩
  · omega
  · simp only [Value.slice.injEq, true_and] at e
    obtain ⟨rfl, rfl⟩ := e
    refine ⟨g, c, rfl, hb, (Array.getElem?_eq_some_iff.1 hg).1, fun j => h1.frozenAt j, fun i hi => ?_⟩
    obtain ⟨A, d, e1, e2, e3, e4⟩ := h2 i hi
    refine ⟨A, d, ?_, ?_, e3, e4⟩
    · rw [h1.cellAt (2 * i) (by omega)]
      exact e1
    · rw [h1.cellAt (2 * i + 1) (by omega)]
      exact e2
theorem TryC.map {nv' : Value} {xs : List Value} {j : Nat} {x : Int × List (List Int)} (h : TryC B nv w xs j x) (hT : ∀ A c, ChT B w A c x.2 → (∀ a, A = some a → 0 < x.2.length → nv.ownBlock ≠ some a.block) → ChT B w' A c x.2 ∧ (∀ a, A = some a → 0 < x.2.length → nv'.ownBlock ≠ some a.block)) : TryC B nv' w' xs j x := by
  obtain ⟨A, c, h1, h2, h3, h4⟩ := h
  obtain ⟨h5, h6⟩ := hT A c h3 h4
  exact ⟨A, c, h1, h2, h5, h6⟩
theorem TrV.below (h : TrV B nv w v ts) (hb : Below w.heap.size w w') (hn : B ≤ w.heap.size) : TrV B nv w' v ts := by
  obtain ⟨xs, h1, h2⟩ := h
  exact ⟨xs, own_fr h1 (Fr.of_below hb) (fun k hk f => by have := (World.ownsRow.lt h1 k hk).2; omega), fun i hi => (h2 i hi).map (fun A c h3 h4 => ⟨h3.below hb hn, h4⟩)⟩
/-- The tries are kept while the chest is worked on. -/
theorem TrV.keptC {nv' : Value} {W : World} {p gs r : Nat} {x : CS} {s : SS} {S : DS} (h : TrV W.heap.size nv w v ts) (hc : ChN W W.heap.size p gs r x s S nv w) (hk : KeptC W.heap.size nv w w') (hf : Foot w nv nv') : TrV W.heap.size nv' w' v ts := by
  obtain ⟨xs, h1, h2⟩ := h
  refine ⟨xs, ?_, fun i hi => (h2 i hi).map (fun A c h3 h4 => ⟨hc.qT h3 hk h4, fun a ha h0 => hf.ne (h4 a ha h0) (h3.rowlt ha h0)⟩)⟩
  obtain ⟨h3, ⟨rfl, h4⟩ | ⟨g, cap, cur, rfl, hg, hh, hr⟩⟩ := h1
  · exact ⟨h3, .inl ⟨rfl, h4⟩⟩
  · exact ⟨h3, .inr ⟨g, cap, cur, rfl, hg, hk.kt g _ cur hh (by decide) (fun e => by
      obtain ⟨_, cs, hb⟩ := hc.nvb _ e
      exact absurd (Blk.inj (show Blk w g _ cur from hh) hb).1 (by decide)), hr⟩⟩
theorem TrV.kept {ts' : List TypeId} (h : TrV B nv w v ts) (hk : Kept B ts' w w') (h1 : 5 ∉ ts') (h2 : 22 ∉ ts') (h3 : 90 ∉ ts') : TrV B nv w' v ts := by
  obtain ⟨xs, e1, e2⟩ := h
  exact ⟨xs, hk.own e1 h3, fun i hi => (e2 i hi).map (fun A c h4 h5 => ⟨h4.kept hk h1 h2, h5⟩)⟩
/-- The chest's notes' row turns to another. -/
theorem TrV.toNv {nv' : Value} (h : TrV B nv w v ts) (hn : ∀ k, nv'.ownBlock = some k → w.heap.size ≤ k) : TrV B nv' w v ts := by
  obtain ⟨xs, e1, e2⟩ := h
  exact ⟨xs, e1, fun i hi => (e2 i hi).map (fun A c h4 h5 => ⟨h4, fun a ha h0 e => by have := hn _ e; have := h4.rowlt ha h0; omega⟩)⟩
end

/-- The first m texts of a row. -/
theorem headT (A : Option Addr) {n c m : Nat} (hA : A = none → c = 0) (hnc : n ≤ c) (hm : m ≤ n) (hg : ∀ a, A = some a → 0 < n → ∃ g o, a = ⟨g, o, none⟩) (W : World) (h0 : 0 < n) :
    (SLs 33 (.slice A n c) none (some (.int .i64 (m : Int))) none).run Tryd.prog W = .ok (.slice A m c) W := by
  obtain ⟨i, hq, hi⟩ := Option.map_eq_some_iff.1 sTz
  cases A with
  | none => have := hA rfl; omega
  | some a =>
    obtain ⟨g, o, rfl⟩ := hg a rfl h0
    have hc : m ≤ c := by omega
    have hadd : (⟨g, o, none⟩ : Addr).add 0 = ⟨g, o, none⟩ := by unfold Addr.add; split <;> simp_all
    simp [SLs, Instr.sliceAt, Instr.slice, Instr.sliceBounds, Instr.sliceBound, asIntOf, run_underlying uT, sizeOf, typeInfo, hq, hc, hadd]

/-- A quiet callee behind a drawn region. -/
theorem quiet_at {P : Program} {f : FuncId} {args : Array Value} {w : World} {q n : Nat} {v : Value} (h : Calls P f args (w.drewN (q + n)) fun e w' => e = .returned v ∧ ∃ m, w' = (w.drewN (q + n)).drewN m) :
    Calls P f args (w.drewN (q + n)) fun e w'' => e = .returned v ∧ ∃ m, w'' = w.drewN (q + m) :=
  h.mono fun _ _ ⟨h1, k, h2⟩ => ⟨h1, n + k, by rw [h2, World.drewN_drewN, Nat.add_assoc]⟩
def SomeBool (w : World) (e : Ending) (w' : World) : Prop := (∃ R : Bool, e = .returned (.bool R)) ∧ Below w.heap.size w w'

section
attribute [local go_sem ↓] slT_ofS
set_option maxHeartbeats 8000000 in
/-- known tells something, and leaves all as it was. -/
theorem known_any {B : Nat} {nv : Value} {v : Value} {ts : List (Int × List (List Int))} (w : World) (hT : TrV B nv w v ts) (hts : ts.length ≤ 1000) (hl : ∀ x ∈ ts, 0 < x.2.length ∧ x.2.length ≤ 1000) (T : Nat) (hh : Int) (A : Option Addr) (c : Nat) (L : List (List Int)) (hC : ChT B w A c L) (hL : L.length ≤ 1000) (hB : B ≤ w.heap.size) :
    Calls Tryd.prog 50 #[v, .agg (chL T hh (.slice A L.length c)).toArray] w (SomeBool w) := by
  obtain ⟨n, hn⟩ : ∃ n, ts.length = n := ⟨_, rfl⟩
  obtain ⟨m, hm⟩ : ∃ m, L.length = m := ⟨_, rfl⟩
  have b0 := Blk.new w 75 (chL T hh (.slice A m c)).toArray
  have B0 : Below w.heap.size w (w.alloc (.cells (chL T hh (.slice A m c)).toArray 75)) := (Below.refl _ w).alloc (Nat.le_refl _) _
  rw [hm] at hL ⊢
  have hT1 := hT.below B0 hB
  have hC1 := hC.below B0 hB
  obtain ⟨W, hW⟩ : ∃ W, w.alloc (.cells (chL T hh (.slice A m c)).toArray 75) = W := ⟨_, rfl⟩
  rw [hW] at b0 B0 hT1 hC1
  obtain ⟨q0, q1, q2⟩ := ch_parts b0
  obtain ⟨Av, cv, rfl⟩ := hT.form
  rw [hn] at hT1 hT hts ⊢
  have HW := Lib.hid hW
  have HB0 := Lib.hid B0
  have HT := Lib.hid hT1
  have HC := Lib.hid hC1
  have HN := Lib.hid hn
  have HM := Lib.hid hm
  have HL := Lib.hid hl
  clear hT hC hT1 hC1 hW B0 b0 hn hm hl
  go_enter Tryd.func50, Tryd.ntmps50
  go_upto_region 1 with fail
  rw [HW.out]
  go_wp2_with fail
  go_loopg [5] n (fun k t wr => ∃ i : Nat, i + k = n ∧ t = .int .i64 (i : Int) ∧ ∃ q, wr = W.drewN q)
  case atStart => exact ⟨0, by omega, rfl, 0, rfl⟩
  case round =>
    obtain ⟨i, hi, rfl, q, rfl⟩ := hrel
    by_cases hin : i < n
    · have hinI : (i : Int) < (n : Int) := by omega
      obtain ⟨g, d, e, _, _, _, hce⟩ := HT.out.cells (by rw [HN.out]; omega)
      simp only [Value.slice.injEq] at e
      obtain ⟨rfl, _, rfl⟩ := e
      obtain ⟨Ai, ci, k0, k1, hTi, _⟩ := hce i (by rw [HN.out]; exact hin)
      obtain ⟨t, ht⟩ : ∃ t, (ts[i]'(by rw [HN.out]; exact hin)).1 = t := ⟨_, rfl⟩
      obtain ⟨Li, hLi⟩ : ∃ l, (ts[i]'(by rw [HN.out]; exact hin)).2 = l := ⟨_, rfl⟩
      have hLil : 0 < Li.length ∧ Li.length ≤ 1000 := by rw [← hLi]; exact HL.out _ (List.getElem_mem _)
      rw [ht] at k0
      rw [hLi] at k1 hTi
      obtain ⟨mi, hmi⟩ : ∃ mi, Li.length = mi := ⟨_, rfl⟩
      rw [hmi] at k1 hLil
      rw [show 2 * i = i * 2 by omega] at k0
      rw [show 2 * i + 1 = i * 2 + 1 by omega] at k1
      have HTi := Lib.hid hTi
      have HMi := Lib.hid hmi
      clear hce ht hLi hmi hTi
      have hnext : True := trivial
      by_cases he : t = (T : Int)
      · subst he
        have z1 : (((T : Int)) == (T : Int)) = true := by simp
        by_cases hlen : m ≤ mi
        · have z2 : decide (m ≤ mi) = true := by simpa using hlen
          have hsl := headT Ai (m := m) HTi.out.nul (by have := HTi.out.cap; rw [HMi.out] at this; exact this) hlen (fun a ha h0 => HTi.out.one ha (by rw [HMi.out]; exact h0)) W hLil.1
          obtain ⟨xs1, t1, v1⟩ := HC.out.ex
          obtain ⟨xs2, t2, v2⟩ := HTi.out.ex
          have hsm : ∃ R : Bool, ∀ q, Calls Tryd.prog 28 #[.slice A m c, .slice Ai m ci] (W.drewN q) fun e w' => e = .returned (.bool R) ∧ ∃ k, w' = (W.drewN q).drewN k := ⟨decide (L = Li.take m), fun q => by
            have ht3 := t2.take m
            have := rsame_any A c Ai ci xs1 (xs2.take m) L (Li.take m) (W.drewN q) (t1.below (below_drewN (Below.refl _ _) q)) (ht3.below (below_drewN (Below.refl _ _) q)) (by rw [HM.out]; omega) (by rw [List.length_take]; omega) (fun l hl => by have := (HC.out.bd l hl).2; omega) (fun l hl => by have := (HTi.out.bd l (List.mem_of_mem_take hl)).2; omega)
            rw [List.length_take, HM.out, HMi.out, Nat.min_eq_left hlen] at this
            exact this⟩
          obtain ⟨R, hR⟩ := hsm
          have hslw : ∀ W', (SLs 33 (.slice Ai mi ci) none (some (.int .i64 (m : Int))) none).run Tryd.prog W' = .ok (.slice Ai m ci) W' := fun W' => headT Ai (m := m) HTi.out.nul (by have := HTi.out.cap; rw [HMi.out] at this; exact this) hlen (fun a ha h0 => HTi.out.one ha (by rw [HMi.out]; exact h0)) W' hLil.1
          have HR := Lib.hid hR
          clear hR hsl t1 t2 v1 v2 xs1 xs2 hlen
          go_wp2_with fail
          go_quiet ((go_at_call 28; exact quiet_at (HR.out _)))
          all_goals
            cases R with
            | true =>
              clear HR hslw
              go_wp2_with fail
              go_ret
              exact ⟨⟨_, rfl⟩, below_drewN (below_drewN HB0.out _) _⟩
            | false =>
              clear HR hslw
              go_wp2_with fail
              go_roundg (n - (i + 1))
              case measure => omega
              case rel => exact ⟨i + 1, by omega, by go_num, _, (by first | rfl | exact World.drewN_drewN _ _ _)⟩
        · have z2 : decide (m ≤ mi) = false := by simpa using hlen
          clear hlen
          go_wp2_with fail
          go_quiet (fail)
          all_goals
            go_wp2_with fail
            go_roundg (n - (i + 1))
            case measure => omega
            case rel => exact ⟨i + 1, by omega, by go_num, _, (by first | rfl | exact World.drewN_drewN _ _ _)⟩
      · have z1 : (t == (T : Int)) = false := by simpa using he
        clear he
        go_wp2_with fail
        go_quiet (fail)
        all_goals
          go_wp2_with fail
          go_roundg (n - (i + 1))
          case measure => omega
          case rel => exact ⟨i + 1, by omega, by go_num, _, (by first | rfl | exact World.drewN_drewN _ _ _)⟩
    · obtain rfl : i = n := by omega
      have hltI : ¬ (i : Int) < (i : Int) := by omega
      go_wp2_with fail
      go_ret
      exact ⟨⟨_, rfl⟩, HB0.out.trans ((below_drewN (Below.refl _ _) q).mono HB0.out.size)⟩
end
end Go.Proofs.YtohadeijmmmcdaaDoor
