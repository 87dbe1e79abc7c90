/-
  driver.Driver: all, Tick.
  driver.Driver: Handle of what is told not to be had there.
  driver.Driver: tasks.
-/
import Derived.Test.YtdkanehjahpehaaGreatDoorJDrvA
import Derived.Test.YtdkanehjahpehaaGreatDoorJTxtO

section
namespace Go.Proofs.YtdkanehjahpehaaGreatDoor
open Go.RowKit Go.Shelf
set_option maxRecDepth 100000

theorem OwnP.base {B B' : Nat} {w : World} {v : Value} {l : List Value} (h : OwnP B w v l) (hB : B' ≤ B) : OwnP B' w v l := by
  refine ⟨h.1, ?_⟩
  rcases h.2 with h0 | ⟨g, cap, cur, h1, h2, h3⟩
  · exact .inl h0
  · exact .inr ⟨g, cap, cur, h1, by omega, h3⟩
/-- The pointers to tasks. -/
def ptrsK (kb : Nat → Nat) (N : Nat) : List Value := (List.range N).map fun j => .pointer (some ⟨kb j, 0, none⟩)
theorem ptrsK_len (kb : Nat → Nat) (N : Nat) : (ptrsK kb N).length = N := by simp [ptrsK]
theorem ptrsK_get (kb : Nat → Nat) (N : Nat) {j : Nat} (h : j < N) : (ptrsK kb N)[j]? = some (.pointer (some ⟨kb j, 0, none⟩)) := by simp [ptrsK, h]
theorem ptrsK_one (kb : Nat → Nat) (N : Nat) : ∀ v ∈ ptrsK kb N, v.oneCell' = true := by
  intro v hv
  simp only [ptrsK, List.mem_map] at hv
  obtain ⟨j, _, rfl⟩ := hv
  rfl

/-- A driver that is pending, with its tasks; all in blocks from E on, but the transaction's parts. -/
structure DrvO (E : Nat) (w : World) (D : Nat) (cl n : Int) (k : Nat) (A1 : Option Addr) (c1 : Nat) (A2 : Option Addr) (c2 : Nat) (t : TxD) (N : Nat) (kb : Nat → Nat) (post : Nat → List Value) (first : Value) (num : Int) (x : Nat → TkD) (Q : List (Int × Int × Int × Int)) (out : Value) (R : List (List Value)) : Prop where
  drv : Blk w D 97 (drvV cl n k A1 c1 A2 c2 t first (.slice none 0 0) num 0 out)
  tasks : ∀ j, j < N → IsTask w (kb j) (cmdV 3 A1 c1 A2 c2 t) (j : Int) ((j : Int) + 1) (x j) (post j)
  ne : ∀ i j, i < N → j < N → i ≠ j → kb i ≠ kb j
  first : OwnP E w first (ptrsK kb N)
  own : OwnR 41 5 E w out R
  reqs : Reqs R Q
  tx : ∀ X, Below E w X → TxAt X A1 A2 t
  lo : E ≤ D ∧ ∀ j, j < N → E ≤ kb j
  hi : E ≤ w.heap.size
  rs : ∀ j, j < N → (x j).r < k
section
variable {E : Nat} {w w' : World} {D : Nat} {cl n : Int} {k : Nat} {A1 : Option Addr} {c1 : Nat} {A2 : Option Addr} {c2 : Nat} {t : TxD} {N : Nat} {kb : Nat → Nat} {post : Nat → List Value} {first : Value} {num : Int} {x : Nat → TkD} {Q Q' : List (Int × Int × Int × Int)} {out out' : Value} {R R' : List (List Value)}
theorem DrvO.below (h : DrvO E w D cl n k A1 c1 A2 c2 t N kb post first num x Q out R) (hb : Below w.heap.size w w') : DrvO E w' D cl n k A1 c1 A2 c2 t N kb post first num x Q out R :=
  ⟨h.drv.fr (Fr.of_below hb) (by have := h.drv.lt; omega), fun j hj => (h.tasks j hj).fr (Fr.of_below hb) (by have := (h.tasks j hj).blk.lt; omega), h.ne, h.first.keep hb, h.own.keep hb, h.reqs, fun X hX => h.tx X ((hb.mono h.hi).trans hX), h.lo, Nat.le_trans h.hi hb.size, h.rs⟩
theorem DrvO.step (h : DrvO E w D cl n k A1 c1 A2 c2 t N kb post first num x Q out R) {i : Nat} (hi : i < N) {y : TkD} (hf : Fr (fun b => b = D ∨ b = kb i ∨ out.ownBlock = some b) w w')
    (hd : Blk w' D 97 (drvV cl n k A1 c1 A2 c2 t first (.slice none 0 0) num 0 out')) (ho : OwnR 41 5 E w' out' R') (hr : Reqs R' Q') (ht : IsTask w' (kb i) (cmdV 3 A1 c1 A2 c2 t) (i : Int) ((i : Int) + 1) y (post i)) (hy : y.r < k) :
    DrvO E w' D cl n k A1 c1 A2 c2 t N kb post first num (fun j => if j = i then y else x j) Q' out' R' ∧ Below E w w' := by
  have hb : Below E w w' := hf.below h.hi (fun b hb e => by
    rcases e with e | e | e
    · have := h.lo.1; omega
    · have := h.lo.2 i hi; omega
    · have := (h.own.lt e).1; omega)
  refine ⟨⟨hd, fun j hj => ?_, h.ne, ?_, ho, hr, fun X hX => h.tx X (hb.trans hX), h.lo, Nat.le_trans h.hi hf.size, fun j hj => ?_⟩, hb⟩
  · by_cases hji : j = i
    · subst hji
      simpa using ht
    · simp only [hji, if_false]
      refine (h.tasks j hj).fr hf (fun e => ?_)
      rcases e with e | e | e
      · exact h.drv.ne_ (h.tasks j hj).blk (by decide) e.symm
      · exact h.ne j i hj hi hji e
      · exact own_ne h.own.own (h.tasks j hj).blk (by decide) e
  · refine h.first.fr hf (fun b hbb e => ?_)
    rcases e with e | e | e
    · exact own_ne h.first h.drv (by decide) (e ▸ hbb)
    · exact own_ne h.first (h.tasks i hi).blk (by decide) (e ▸ hbb)
    · exact own_apart h.first h.own.own (by decide) hbb e
  · by_cases hji : j = i
    · subst hji
      simpa using hy
    · simp only [hji, if_false]
      exact h.rs j hj
theorem DrvO.keepP (h : DrvO E w D cl n k A1 c1 A2 c2 t N kb post first num x Q out R) {i : Nat} (hi : i < N) (hf : Fr (fun b => b = D ∨ b = kb i ∨ out.ownBlock = some b) w w') {b : Nat} {v : Value} {l : List Value} (hv : OwnP b w v l) : OwnP b w' v l :=
  hv.fr hf (fun b hbb e => by
    rcases e with e | e | e
    · exact own_ne hv h.drv (by decide) (e ▸ hbb)
    · exact own_ne hv (h.tasks i hi).blk (by decide) (e ▸ hbb)
    · exact own_apart hv h.own.own (by decide) hbb e)
/-- A task is changed by itself. -/
theorem DrvO.one (h : DrvO E w D cl n k A1 c1 A2 c2 t N kb post first num x Q out R) {i : Nat} (hi : i < N) {y : TkD} (hf : Fr (fun b => b = kb i) w w') (ht : IsTask w' (kb i) (cmdV 3 A1 c1 A2 c2 t) (i : Int) ((i : Int) + 1) y (post i)) (hy : y.r < k) :
    DrvO E w' D cl n k A1 c1 A2 c2 t N kb post first num (fun j => if j = i then y else x j) Q out R ∧ Below E w w' ∧ Fr (fun b => b = D ∨ b = kb i ∨ out.ownBlock = some b) w w' := by
  have f := hf.mono (G := fun b => b = D ∨ b = kb i ∨ out.ownBlock = some b) (fun _ _ e => .inr (.inl e))
  have h2 := h.step hi f (h.drv.fr hf (fun e => h.drv.ne_ (h.tasks i hi).blk (by decide) e)) (h.own.fr hf (fun b hb e => own_ne h.own.own (h.tasks i hi).blk (by decide) (e ▸ hb))) h.reqs ht hy
  exact ⟨h2.1, h2.2, f⟩
theorem upd_twice {i : Nat} {a b : TkD} (f : Nat → TkD) : (fun j => if j = i then a else if j = i then b else f j) = fun j => if j = i then a else f j := by
  funext j
  by_cases h : j = i <;> simp [h]
end

set_option maxHeartbeats 8000000 in
theorem all_any {E : Nat} {w : World} {D : Nat} {cl n : Int} {k : Nat} {A1 : Option Addr} {c1 : Nat} {A2 : Option Addr} {c2 : Nat} {t : TxD} {N : Nat} {kb : Nat → Nat} {post : Nat → List Value} {first : Value} {num : Int} {x : Nat → TkD} {Q : List (Int × Int × Int × Int)} {out : Value} {R : List (List Value)}
    (h : DrvO E w D cl n k A1 c1 A2 c2 t N kb post first num x Q out R) (hN : N ≤ 64) :
    Calls Tryz.prog 39 #[.pointer (some ⟨D, 0, none⟩)] w fun e w' => (∃ v, e = .returned v ∧ OwnP w.heap.size w' v (ptrsK kb N)) ∧ Below w.heap.size w w' := by
  obtain ⟨Af, cf, hfv, hrd, _, hnil, _⟩ := h.first.rd
  rw [ptrsK_len] at hfv
  subst hfv
  obtain ⟨S0, hS0⟩ : ∃ S0 : World → Prop, (fun X => X.cell? ⟨D, 7, none⟩ = some (.slice Af N cf) ∧ X.cell? ⟨D, 8, none⟩ = some (.slice none 0 0)) = S0 := ⟨_, rfl⟩
  have hS1 : S0 w.drew := by rw [← hS0]; exact ⟨h.drv.drew.cell 7, h.drv.drew.cell 8⟩
  have bw := Blk.new w.drew 95 #[.slice Af N cf, .slice none 0 0]
  have B2 : Below w.heap.size w (w.drew.alloc (.cells #[.slice Af N cf, .slice none 0 0] 95)) := (Below.refl _ w).drew.alloc (Nat.le_refl _) _
  have hrd2 := hrd.below B2
  obtain ⟨w2, hw2⟩ : ∃ w2, w.drew.alloc (.cells #[.slice Af N cf, .slice none 0 0] 95) = w2 := ⟨_, rfl⟩
  rw [hw2] at bw B2 hrd2
  have hlf : ([ptrsK kb N, []] : List (List Value)).flatten = ptrsK kb N := by simp
  have hcc := concatP_any (some ⟨w.heap.size, 0, none⟩) 2 [.slice Af N cf, .slice none 0 0] [ptrsK kb N, []] w2 ⟨rfl, fun _ => ⟨w.heap.size, 0, rfl, bw.lt, fun j x hx => by rw [Nat.zero_add]; exact (bw.cell j).trans (by simpa using hx)⟩, fun i hi hi' => by
    match i, hi with
    | 0, _ => exact ⟨Af, cf, by simp [ptrsK_len], hrd2, hnil, ptrsK_one kb N⟩
    | 1, _ => exact ⟨none, 0, rfl, fun h => absurd h (by simp), fun _ => rfl, by simp⟩⟩ (by simp) (by rw [hlf, ptrsK_len]; omega)
  rw [hlf, show ([ptrsK kb N, []] : List (List Value)).length = 2 from rfl] at hcc
  have hw2' : (w.alloc (.cells #[.slice Af N cf, .slice none 0 0] 95)).drew = w2 := hw2
  have HSE := Lib.hid hS0
  have HS1 := Lib.hid hS1
  have HW2 := Lib.hid hw2'
  have HB2 := Lib.hid B2
  clear hS0 hS1 hw2' B2 bw hrd2 hw2 hlf h hrd hnil
  go_enter Tryz.func39, Tryz.ntmps39
  go_upto_region 1 with fail
  refine wp_txO [(0, 3), (1, 3), (2, 3), (4, 3), (5, 3), (6, 3), (3, 0), (7, 0), (8, 2), (9, 2), (10, 3)] S0 (by kernel_rfl) (by kernel_rfl) (by kernel_rfl) (by kernel_rfl) HS1.out ?_
  iterate 6 (with_reducible refine wpTxO_evN (o := ?_) (v := ?_) (a' := ?_) (by with_unfolding_all rfl) (by with_unfolding_all rfl) (fun W' => ?_) ?_ ?_; rotate_left 2; (focus (go_simp <;> with_reducible rfl)); focus (go_simp <;> with_reducible rfl))
  iterate 2 (with_reducible refine wpTxO_takeN (o := ?_) (v := ?_) (a' := ?_) (by with_unfolding_all rfl) (by with_unfolding_all rfl) (fun W' hS => ?_) ?_ ?_; rotate_left 2; (focus (rw [← HSE.out] at hS; obtain ⟨t1, t2⟩ := hS; go_simp <;> with_reducible rfl)); focus (go_simp <;> with_reducible rfl))
  with_reducible refine wpTxO_last (o := ?_) (by with_unfolding_all rfl) (by with_unfolding_all rfl) (fun K hK => ?_)
  try simp only [List.getElem_toArray, List.getElem_cons_succ, List.getElem_cons_zero]
  go_simp
  with_reducible refine hK _ _ ?_
  clear hK K
  rw [HW2.out]
  with_reducible refine wpTxO_last (o := ?_) (by with_unfolding_all rfl) (by with_unfolding_all rfl) (fun K hK => ?_)
  try simp only [List.getElem_toArray, List.getElem_cons_succ, List.getElem_cons_zero]
  go_simp
  with_reducible refine hcc.mono ?_
  rintro e w3 ⟨v, rfl, hv, hB3⟩
  have HB3 := Lib.hid (HB2.out.trans (hB3.mono HB2.out.size))
  have HV := Lib.hid hv
  clear hv hB3 hcc
  with_reducible refine hK _ _ ?_
  clear hK K
  iterate 1 (with_reducible refine wpTxO_evN (o := ?_) (v := ?_) (a' := ?_) (by with_unfolding_all rfl) (by with_unfolding_all rfl) (fun W' => ?_) ?_ ?_; rotate_left 2; (focus (go_simp <;> with_reducible rfl)); focus (go_simp <;> with_reducible rfl))
  with_reducible refine wpTxO_nil ?_
  rw [noPan_normal]
  go_wp2_with fail
  go_ret
  exact ⟨⟨v, rfl, HV.out.base HB2.out.size⟩, HB3.out⟩

/-- What is behind a tick. -/
def TickPost (E : Nat) (D : Nat) (cl n : Int) (k : Nat) (A1 : Option Addr) (c1 : Nat) (A2 : Option Addr) (c2 : Nat) (t : TxD) (N : Nat) (kb : Nat → Nat) (post : Nat → List Value) (first : Value) (num : Int) (x : Nat → TkD) (Q : List (Int × Int × Int × Int)) (w w' : World) : Prop :=
  (∃ out R, DrvO E w' D cl n k A1 c1 A2 c2 t N kb post first num x Q out R) ∧ Below E w w'
theorem tick_fun (k i : Nat) (x : Nat → TkD) : (fun j => if j = i then (x i).tick k else if j < i then (x j).tick k else x j) = fun j => if j < i + 1 then (x j).tick k else x j := by
  funext j
  by_cases h : j = i
  · subst h; simp
  · by_cases h2 : j < i
    · rw [if_neg h, if_pos h2, if_pos (by omega)]
    · rw [if_neg h, if_neg h2, if_neg (by omega)]

set_option maxHeartbeats 16000000 in
theorem tick_any {E : Nat} {w : World} {D : Nat} {cl n : Int} {k : Nat} {A1 : Option Addr} {c1 : Nat} {A2 : Option Addr} {c2 : Nat} {t : TxD} {N : Nat} {kb : Nat → Nat} {post : Nat → List Value} {first : Value} {num : Int} {x : Nat → TkD} {Q : List (Int × Int × Int × Int)} {out : Value} {R : List (List Value)}
    (h : DrvO E w D cl n k A1 c1 A2 c2 t N kb post first num x Q out R) (hN : N ≤ 64) (hck : checkP t = 0) (hL : 70 < (lockF t).length) (h1 : 1 ≤ k) (h7 : k ≤ 7) (hQ : Q.length ≤ 100) (hxb : ∀ j, j < N → -1000000 ≤ (x j).c ∧ (x j).c ≤ 1000000) :
    Calls Tryz.prog 18 #[.pointer (some ⟨D, 0, none⟩)] w fun e w' => e = .returned (.tuple #[]) ∧ TickPost E D cl n k A1 c1 A2 c2 t N kb post first num (fun j => if j < N then (x j).tick k else x j) (Q ++ asksTo k cl x N) w w' := by
  have hal := all_any h hN
  have hE := h.hi
  have H := Lib.hid h
  have HXB := Lib.hid hxb
  have HCK := Lib.hid hck
  have HL := Lib.hid hL
  clear h hxb hck hL
  go_enter Tryz.func18, Tryz.ntmps18
  go_wp2_with fail
  with_reducible refine hal.mono ?_
  rintro e w1 ⟨⟨v, rfl, hv⟩, hB1⟩
  obtain ⟨Av, Nv, cv, rfl, hNv⟩ := hv.formN
  rw [ptrsK_len] at hNv
  subst hNv
  have hd1 := H.out.below hB1
  have HV := Lib.hid hv
  have HD1 := Lib.hid hd1
  have HB1 := Lib.hid (hB1.mono hE)
  clear hv hd1 hal hB1
  go_wp2_with fail
  go_loopg [3, 7] Nv (fun kk _ c wr => ∃ (i : Nat) (out' : Value) (R' : List (List Value)), i + kk = Nv ∧ c = .int .i64 (i : Int) ∧ DrvO E wr D cl n k A1 c1 A2 c2 t Nv kb post first num (fun j => if j < i then (x j).tick k else x j) (Q ++ asksTo k cl x i) out' R' ∧ OwnP w.heap.size wr (.slice Av Nv cv) (ptrsK kb Nv) ∧ Below E w wr ∧ (asksTo k cl x i).length ≤ i)
  case atStart => exact ⟨0, out, R, by omega, rfl, by simpa [asksTo] using HD1.out, HV.out, HB1.out, by simp [asksTo]⟩
  case round =>
    obtain ⟨i, out', R', hi, rfl, hd, hv, hB, hal⟩ := hrel
    by_cases hlt : i < Nv
    · have hltI : (i : Int) < (Nv : Int) := by omega
      have hi0 : (0 : Int) ≤ (i : Int) := by omega
      obtain ⟨A9, c9, e9, hrd, _⟩ := hv.rd
      simp only [Value.slice.injEq] at e9
      obtain ⟨rfl, -, -⟩ := e9
      obtain ⟨g, o, rfl, hg, hc⟩ := hrd (by rw [ptrsK_len]; omega)
      have q0 := hc i _ (ptrsK_get kb Nv hlt)
      have hti := hd.tasks i hlt
      simp only [Nat.lt_irrefl, if_false] at hti
      have hxi := HXB.out i hlt
      have hri := H.out.rs i hlt
      obtain ⟨xi, hxi0⟩ : ∃ y, x i = y := ⟨_, rfl⟩
      rw [hxi0] at hti hxi hri
      obtain ⟨cm, hcm⟩ : ∃ y, xi.c - 1 = y := ⟨_, rfl⟩
      have hwr : IntKind.i64.wrap (xi.c - 1) = cm := by rw [IntKind.wrap_i64]; omega
      have kdn := hti.dn
      have kco := hti.co
      have z76 := hti.blk.frozen 76
      have k2 := hti.setC (cm)
      have f2 : Fr (fun b => b = kb i) wr (wr.setCell ⟨kb i, 76, none⟩ (.int .i64 (cm))) := (Fr.refl (fun b => b = kb i) wr).setCell (p := ⟨kb i, 76, none⟩) (fun _ => rfl) _
      obtain ⟨hd2, hb2, ff2⟩ := hd.one hlt f2 k2 hri
      have hv2 := hd.keepP hlt ff2 hv
      have hB2 := hB.trans hb2
      obtain ⟨w2, hw2⟩ : ∃ X, wr.setCell ⟨kb i, 76, none⟩ (.int .i64 (cm)) = X := ⟨_, rfl⟩
      rw [hw2] at k2 hd2 hv2 hB2
      have hQl : (Q ++ asksTo k cl x i).length ≤ 1000 := by rw [List.length_append]; omega
      have hsend := fun (ws : World) (y : TkD) (ou : Value) (Rr : List (List Value)) (hds : DrvO E ws D cl n k A1 c1 A2 c2 t Nv kb post first num (fun j => if j = i then y else if j < i then (x j).tick k else x j) (Q ++ asksTo k cl x i) ou Rr) => send_any HCK.out HL.out (hds.tx ws (Below.refl _ _)) hds.drv (by have := hds.tasks i hlt; simp only [if_true] at this; exact this) hds.own hds.reqs hds.hi hQl
      have kc2 := k2.co
      have kh2 := k2.ch
      have hfun := tick_fun k i x
      rw [hxi0] at hfun
      have hask : asksTo k cl x (i + 1) = asksTo k cl x i ++ asksQ k cl x i := rfl
      unfold asksQ at hask
      rw [hxi0] at hask
      obtain ⟨ki, hki⟩ : ∃ b, kb i = b := ⟨_, rfl⟩
      rw [hki] at q0 kdn kco z76 hw2 kc2 kh2
      obtain ⟨Qi, hQi⟩ : ∃ q, asksTo k cl x i = q := ⟨_, rfl⟩
      rw [hQi] at hask hd hal
      simp only [hQi] at hsend hd2
      have HCM := Lib.hid hcm
      have HD2 := Lib.hid hd2
      have HV2 := Lib.hid hv2
      have HB2 := Lib.hid hB2
      have HW2 := Lib.hid hw2
      have HFUN := Lib.hid hfun
      have HASK := Lib.hid hask
      have HSEND := Lib.hid hsend
      have HKI := Lib.hid hki
      have HAL := Lib.hid hal
      have K2 := Lib.hid k2
      clear hcm hd2 hv2 hB2 hw2 hfun hask hsend hki hal k2 hd hv hB hrd hc hti f2 hb2 ff2 hQl hxi0 hQi
      go_upto_region 5 with fail
      rw [HW2.out]
      clear q0 kdn kco z76
      by_cases hc0 : 0 < cm
      · have ha : xi.asks = false := by unfold TkD.asks; rw [HCM.out]; simp; omega
        have htk : xi.tick k = ⟨xi.r, cm, xi.ch⟩ := by unfold TkD.tick; rw [HCM.out, if_pos hc0]
        have HA := Lib.hid ha
        have HTK := Lib.hid htk
        clear ha htk
        go_wp2_with fail
        go_roundg (Nv - (i + 1))
        case measure => omega
        case rel =>
          refine ⟨i + 1, out', R', by omega, by go_num, ?_, HV2.out, HB2.out, ?_⟩
          · rw [← HFUN.out, HTK.out, HASK.out, HA.out]
            simpa using HD2.out
          · rw [HASK.out, HA.out]
            simp
            have := HAL.out
            omega
      · have hc0' : cm ≤ 0 := by omega
        have ha : xi.asks = true := by unfold TkD.asks; rw [HCM.out]; simp; omega
        have HA := Lib.hid ha
        clear ha
        have htk : xi.tick k = ⟨if xi.ch = true then xi.r else (xi.r + 1) % k, 12, false⟩ := by unfold TkD.tick; rw [HCM.out, if_neg hc0]
        have HTK := Lib.hid htk
        clear htk hc0
        cases hch : xi.ch with
        | true =>
          have hs := HSEND.out w2 _ _ _ HD2.out
          rw [HKI.out] at hs
          rw [hch] at kh2
          have HCH := Lib.hid hch
          clear hch
          go_upto_region 8 with fail
          clear kc2 kh2
          go_wp2_with fail
          with_reducible refine hs.mono ?_
          rintro e w3 ⟨rfl, o3, R3, hb3, ho3, hr3, ht3, hf3, _⟩
          rw [← HKI.out] at hf3 ht3
          obtain ⟨hd3, hB3⟩ := HD2.out.step hlt hf3 hb3 ho3 hr3 ht3 hri
          have hv3 := HD2.out.keepP hlt hf3 HV2.out
          rw [upd_twice] at hd3
          have HD3 := Lib.hid hd3
          have HV3 := Lib.hid hv3
          have HB3 := Lib.hid ((HB2.out.trans hB3))
          clear hd3 hv3 hs hb3 ho3 hr3 ht3 hf3 hB3
          go_wp2_with fail
          go_roundg (Nv - (i + 1))
          case measure => omega
          case rel =>
            refine ⟨i + 1, o3, R3, by omega, by go_num, ?_, HV3.out, HB3.out, ?_⟩
            · rw [← HFUN.out, HASK.out, HA.out, HTK.out, HCH.out]
              simp only [if_true, ← List.append_assoc]
              exact HD3.out
            · rw [HASK.out, HA.out]
              simp
              exact HAL.out
        | false =>
          have ht := turn_any HD2.out.drv K2.out h1 h7 hri
          rw [HKI.out] at ht
          rw [hch] at kh2
          have HCH := Lib.hid hch
          clear hch
          go_upto_region 7 with fail
          clear kc2 kh2
          go_wp2_with fail
          with_reducible refine ht.mono ?_
          rintro e w3 ⟨rfl, ht3, hf3⟩
          rw [← HKI.out] at hf3 ht3
          have hrr : (xi.r + 1) % k < k := Nat.mod_lt _ (by omega)
          have hd2' := HD2.out
          obtain ⟨hd3, hB3, hff3⟩ := hd2'.one hlt hf3 ht3 hrr
          have hv3 := HD2.out.keepP hlt hff3 HV2.out
          rw [upd_twice] at hd3
          have hs := HSEND.out w3 _ _ _ hd3
          rw [HKI.out] at hs
          have HD3 := Lib.hid hd3
          have HV3 := Lib.hid hv3
          have HB3 := Lib.hid ((HB2.out.trans hB3))
          clear hd3 hv3 ht ht3 hf3 hff3 hd2' hB3
          go_wp2_with fail
          with_reducible refine hs.mono ?_
          rintro e w4 ⟨rfl, o4, R4, hb4, ho4, hr4, ht4, hf4, _⟩
          rw [← HKI.out] at hf4 ht4
          obtain ⟨hd4, hB4⟩ := HD3.out.step hlt hf4 hb4 ho4 hr4 ht4 hrr
          have hv4 := HD3.out.keepP hlt hf4 HV3.out
          rw [upd_twice] at hd4
          have HD4 := Lib.hid hd4
          have HV4 := Lib.hid hv4
          have HB4 := Lib.hid ((HB3.out.trans hB4))
          clear hd4 hv4 hs hb4 ho4 hr4 ht4 hf4 hB4
          go_wp2_with fail
          go_roundg (Nv - (i + 1))
          case measure => omega
          case rel =>
            refine ⟨i + 1, o4, R4, by omega, by go_num, ?_, HV4.out, HB4.out, ?_⟩
            · rw [← HFUN.out, HASK.out, HA.out, HTK.out, HCH.out]
              simp only [if_true, ← List.append_assoc]
              exact HD4.out
            · rw [HASK.out, HA.out]
              simp
              exact HAL.out
    · obtain rfl : i = Nv := by omega
      go_wp2_with fail
      go_end0
      exact ⟨rfl, ⟨out', R', hd⟩, hB⟩
end Go.Proofs.YtdkanehjahpehaaGreatDoor
end

section
namespace Go.Proofs.YtdkanehjahpehaaGreatDoor
open Go.RowKit Go.Shelf
set_option maxRecDepth 100000

theorem islater_22 (w : World) : Calls Tryz.prog 42 #[.int .i64 22] w fun e w' => e = .returned (.bool true) ∧ w' = w := by
  go_enter Tryz.func42, Tryz.ntmps42
  go_wp2_with fail
  go_ret
  exact ⟨rfl, rfl⟩

set_option maxHeartbeats 4000000 in
theorem handle1_any {w : World} {kb sb ab : Nat} {pre post : List Value} {j i : Nat} {x : TkD} {tp : TypeId} {av : Array Value} (hk : IsTask w kb pre (j : Int) ((j : Int) + 1) x post) (hs : Blk w sb 3 #[.int .i64 (i : Int)]) (ha : Blk w ab tp av) (ha1 : av[1]? = some (.int .i64 ((i : Int) + 1))) :
    Calls Tryz.prog 41 #[.pointer (some ⟨kb, 0, none⟩), .pointer (some ⟨sb, 0, none⟩), .pointer (some ⟨ab, 0, none⟩)] w fun e w' => e = .returned (.bool (decide (j = i))) ∧ ∃ q, w' = w.drewN q := by
  have q1 : w.drew.cell? ⟨sb, 0, none⟩ = some (.int .i64 (i : Int)) := hs.drew.cell 0
  have q2 : w.drew.cell? ⟨ab, 1, none⟩ = some (.int .i64 ((i : Int) + 1)) := (ha.drew.cell 1).trans ha1
  have hkd : IsTask w.drew kb pre (j : Int) ((j : Int) + 1) x post := ⟨hk.blk.drew, hk.len⟩
  have q3 := hkd.dn
  have q4 := hkd.sh
  have q5 := hkd.nu
  obtain ⟨S0, hS0⟩ : ∃ S0 : World → Prop, (fun X => X.cell? ⟨sb, 0, none⟩ = some (.int .i64 (i : Int)) ∧ X.cell? ⟨ab, 1, none⟩ = some (.int .i64 ((i : Int) + 1)) ∧ X.cell? ⟨kb, 78, none⟩ = some (.bool false) ∧ X.cell? ⟨kb, 73, none⟩ = some (.int .i64 (j : Int)) ∧ X.cell? ⟨kb, 74, none⟩ = some (.int .i64 ((j : Int) + 1))) = S0 := ⟨_, rfl⟩
  have hS1 : S0 w.drew := by rw [← hS0]; exact ⟨q1, q2, q3, q4, q5⟩
  by_cases hji : j = i
  · have hd : decide (j = i) = true := by simpa using hji
    have e1 : ((j : Int) == (i : Int)) = true := by simp [hji]
    have e2 : ((j : Int) + 1 == (i : Int) + 1) = true := by simp [hji]
    rw [hd]
    have HSE := Lib.hid hS0
    have HS1 := Lib.hid hS1
    clear hS0 hS1 q1 q2 q3 q4 q5 hk hkd hs ha ha1 hd hji
    go_enter Tryz.func41, Tryz.ntmps41
    go_upto_region 1 with fail
    refine wp_txO [(0, 3), (1, 3), (2, 3), (3, 0), (4, 3), (5, 3), (6, 3), (7, 3), (8, 3), (9, 0), (10, 0), (11, 3), (12, 3), (13, 3), (14, 3), (15, 3), (16, 3), (18, 3), (17, 0), (19, 0), (20, 3), (21, 3), (22, 3)] S0 (by kernel_rfl) (by kernel_rfl) (by kernel_rfl) (by kernel_rfl) HS1.out ?_
    iterate 3 (with_reducible refine wpTxO_evN (o := ?_) (v := ?_) (a' := ?_) (by with_unfolding_all rfl) (by with_unfolding_all rfl) (fun W' => ?_) ?_ ?_; rotate_left 2; (focus (go_simp <;> with_reducible rfl)); focus (go_simp <;> with_reducible rfl))
    iterate 1 (with_reducible refine wpTxO_takeN (o := ?_) (v := ?_) (a' := ?_) (by with_unfolding_all rfl) (by with_unfolding_all rfl) (fun W' hS => ?_) ?_ ?_; rotate_left 2; (focus (rw [← HSE.out] at hS; obtain ⟨t1, t2, t3, t4, t5⟩ := hS; go_simp <;> with_reducible rfl)); focus (go_simp <;> with_reducible rfl))
    iterate 5 (with_reducible refine wpTxO_evN (o := ?_) (v := ?_) (a' := ?_) (by with_unfolding_all rfl) (by with_unfolding_all rfl) (fun W' => ?_) ?_ ?_; rotate_left 2; (focus (go_simp <;> with_reducible rfl)); focus (go_simp <;> with_reducible rfl))
    iterate 2 (with_reducible refine wpTxO_takeN (o := ?_) (v := ?_) (a' := ?_) (by with_unfolding_all rfl) (by with_unfolding_all rfl) (fun W' hS => ?_) ?_ ?_; rotate_left 2; (focus (rw [← HSE.out] at hS; obtain ⟨t1, t2, t3, t4, t5⟩ := hS; go_simp <;> with_reducible rfl)); focus (go_simp <;> with_reducible rfl))
    iterate 7 (with_reducible refine wpTxO_evN (o := ?_) (v := ?_) (a' := ?_) (by with_unfolding_all rfl) (by with_unfolding_all rfl) (fun W' => ?_) ?_ ?_; rotate_left 2; (focus (go_simp <;> with_reducible rfl)); focus (go_simp <;> with_reducible rfl))
    iterate 2 (with_reducible refine wpTxO_takeN (o := ?_) (v := ?_) (a' := ?_) (by with_unfolding_all rfl) (by with_unfolding_all rfl) (fun W' hS => ?_) ?_ ?_; rotate_left 2; (focus (rw [← HSE.out] at hS; obtain ⟨t1, t2, t3, t4, t5⟩ := hS; go_simp <;> with_reducible rfl)); focus (go_simp <;> with_reducible rfl))
    iterate 3 (with_reducible refine wpTxO_evN (o := ?_) (v := ?_) (a' := ?_) (by with_unfolding_all rfl) (by with_unfolding_all rfl) (fun W' => ?_) ?_ ?_; rotate_left 2; (focus (go_simp <;> with_reducible rfl)); focus (go_simp <;> with_reducible rfl))
    with_reducible refine wpTxO_nil ?_
    rw [noPan_normal]
    go_wp2_with fail
    go_ret
    exact ⟨rfl, 1, rfl⟩
  · have hd : decide (j = i) = false := by simpa using hji
    have e1 : ((j : Int) == (i : Int)) = false := by simp; omega
    rw [hd]
    have HSE := Lib.hid hS0
    have HS1 := Lib.hid hS1
    clear hS0 hS1 q1 q2 q3 q4 q5 hk hkd hs ha ha1 hd hji
    go_enter Tryz.func41, Tryz.ntmps41
    go_upto_region 1 with fail
    refine wp_txO [(0, 3), (1, 3), (2, 3), (3, 0), (4, 3), (5, 3), (6, 3), (7, 3), (8, 3), (9, 0), (10, 0), (11, 3), (12, 3), (13, 3), (14, 3), (15, 3), (16, 3), (17, 3), (18, 3), (19, 3), (20, 3), (21, 3), (22, 3)] S0 (by kernel_rfl) (by kernel_rfl) (by kernel_rfl) (by kernel_rfl) HS1.out ?_
    iterate 3 (with_reducible refine wpTxO_evN (o := ?_) (v := ?_) (a' := ?_) (by with_unfolding_all rfl) (by with_unfolding_all rfl) (fun W' => ?_) ?_ ?_; rotate_left 2; (focus (go_simp <;> with_reducible rfl)); focus (go_simp <;> with_reducible rfl))
    iterate 1 (with_reducible refine wpTxO_takeN (o := ?_) (v := ?_) (a' := ?_) (by with_unfolding_all rfl) (by with_unfolding_all rfl) (fun W' hS => ?_) ?_ ?_; rotate_left 2; (focus (rw [← HSE.out] at hS; obtain ⟨t1, t2, t3, t4, t5⟩ := hS; go_simp <;> with_reducible rfl)); focus (go_simp <;> with_reducible rfl))
    iterate 5 (with_reducible refine wpTxO_evN (o := ?_) (v := ?_) (a' := ?_) (by with_unfolding_all rfl) (by with_unfolding_all rfl) (fun W' => ?_) ?_ ?_; rotate_left 2; (focus (go_simp <;> with_reducible rfl)); focus (go_simp <;> with_reducible rfl))
    iterate 2 (with_reducible refine wpTxO_takeN (o := ?_) (v := ?_) (a' := ?_) (by with_unfolding_all rfl) (by with_unfolding_all rfl) (fun W' hS => ?_) ?_ ?_; rotate_left 2; (focus (rw [← HSE.out] at hS; obtain ⟨t1, t2, t3, t4, t5⟩ := hS; go_simp <;> with_reducible rfl)); focus (go_simp <;> with_reducible rfl))
    iterate 3 (with_reducible refine wpTxO_evN (o := ?_) (v := ?_) (a' := ?_) (by with_unfolding_all rfl) (by with_unfolding_all rfl) (fun W' => ?_) ?_ ?_; rotate_left 2; (focus (go_simp <;> with_reducible rfl)); focus (go_simp <;> with_reducible rfl))
    iterate 7 (with_reducible refine wpTxO_evd (o := ?_) (a' := ?_) (by with_unfolding_all rfl) (by with_unfolding_all rfl) ?_ ?_; rotate_left; focus (go_simp <;> with_reducible rfl))
    iterate 2 (with_reducible refine wpTxO_evN (o := ?_) (v := ?_) (a' := ?_) (by with_unfolding_all rfl) (by with_unfolding_all rfl) (fun W' => ?_) ?_ ?_; rotate_left 2; (focus (go_simp <;> with_reducible rfl)); focus (go_simp <;> with_reducible rfl))
    with_reducible refine wpTxO_nil ?_
    rw [noPan_normal]
    go_wp2_with fail
    go_ret
    exact ⟨rfl, 1, rfl⟩

/-- The replica that is asked next. -/
def toldP (k : Nat) (lead : Int) (r : Nat) : Nat := if 0 ≤ lead ∧ lead < (k : Int) then lead.toNat else (r + 1) % k
theorem uIntE : Tryz.prog.underlying 3 = some (.int .i64) := by kernel_rfl

set_option maxHeartbeats 16000000 in
theorem handle_any {E : Nat} {w : World} {D : Nat} {cl n : Int} {k : Nat} {A1 : Option Addr} {c1 : Nat} {A2 : Option Addr} {c2 : Nat} {t : TxD} {N : Nat} {kb : Nat → Nat} {post : Nat → List Value} {first : Value} {num : Int} {x : Nat → TkD} {Q : List (Int × Int × Int × Int)} {out : Value} {R : List (List Value)}
    (h : DrvO E w D cl n k A1 c1 A2 c2 t N kb post first num x Q out R) (hN : N ≤ 64) (h1 : 1 ≤ k) (h7 : k ≤ 7) {i : Nat} (hi : i < N) {av : Array Value} {lead : Int} (a0 : av[0]? = some (.int .i64 cl)) (a1 : av[1]? = some (.int .i64 ((i : Int) + 1))) (a2 : av[2]? = some (.int .i64 lead)) (a3 : av[3]? = some (.int .i64 22)) :
    Calls Tryz.prog 13 #[.pointer (some ⟨D, 0, none⟩), .int .i64 (i : Int), .agg av] w fun e w' => e = .returned (.tuple #[]) ∧ TickPost E D cl n k A1 c1 A2 c2 t N kb post first num (fun j => if j = i then ⟨toldP k lead (x i).r, 1, true⟩ else x j) Q w w' := by
  have hmf : ∀ (fn : Fn) (first cap : Array Value) (w : World), (Instr.makeFunc fn first cap).run Tryz.prog w = .ok (.func fn first cap) w := fun _ _ _ _ => rfl
  -- the variables
  obtain ⟨g, hg⟩ : ∃ g, w.heap.size = g := ⟨_, rfl⟩
  have b0 := Blk.new w 3 #[.int .i64 (i : Int)]
  have B0 : Below w.heap.size w (w.alloc (.cells #[.int .i64 (i : Int)] 3)) := (Below.refl _ w).alloc (Nat.le_refl _) _
  obtain ⟨W, hW⟩ : ∃ W, w.alloc (.cells #[.int .i64 (i : Int)] 3) = W := ⟨_, rfl⟩
  have hWs : W.heap.size = g + 1 := by rw [← hW, ← hg]; simp
  rw [hW] at b0 B0
  rw [hg] at b0
  have b01 := b0.alloc (.cells av 65)
  have b1 := Blk.new W 65 av
  have B1 := B0.alloc B0.size (.cells av 65)
  obtain ⟨V, hV⟩ : ∃ V, W.alloc (.cells av 65) = V := ⟨_, rfl⟩
  have hVs : V.heap.size = g + 2 := by rw [← hV]; simp; omega
  rw [hV] at b01 b1 B1
  rw [hWs] at b1
  have hdV := h.below B1
  have hal := all_any hdV hN
  have hE := h.hi
  have hri := h.rs i hi
  obtain ⟨xi, hxi⟩ : ∃ y, x i = y := ⟨_, rfl⟩
  rw [hxi] at hri ⊢
  have HW := Lib.hid hW
  have HV := Lib.hid hV
  have HG := Lib.hid hg
  have HVS := Lib.hid hVs
  have HB01 := Lib.hid b01
  have HB1 := Lib.hid b1
  have HBW := Lib.hid B1
  have HDV := Lib.hid hdV
  have HXI := Lib.hid hxi
  have HHE := Lib.hid hE
  clear hW hV hg hVs b01 b1 B1 hdV hxi hE h b0 B0 hWs
  go_enter Tryz.func13, Tryz.ntmps13
  go_upto_region 1 with fail
  rw [HW.out, HV.out, HG.out]
  go_wp2_with fail
  with_reducible refine hal.mono ?_
  rintro e w1 ⟨⟨v, rfl, hv⟩, hB1⟩
  obtain ⟨Av, Nv, cv, rfl, hNv⟩ := hv.formN
  rw [ptrsK_len] at hNv
  subst hNv
  have hd1 := HDV.out.below hB1
  have s1 := HB01.out.fr (Fr.of_below hB1) (by have := HVS.out; omega)
  have t1 := HB1.out.fr (Fr.of_below hB1) (by have := HVS.out; omega)
  obtain ⟨Av', cv', e9, hrd, _⟩ := hv.rd
  simp only [Value.slice.injEq] at e9
  obtain ⟨rfl, -, -⟩ := e9
  obtain ⟨g1, o1, rfl, hg1, hc⟩ := hrd (by rw [ptrsK_len]; omega)
  have hpred : PredAt Tryz.prog 41 #[.pointer (some ⟨g, 0, none⟩), .pointer (some ⟨g + 1, 0, none⟩)] (fun j : Nat => Value.pointer (some ⟨kb (if j < Nv then j else i), 0, none⟩)) (fun j => decide ((if j < Nv then j else i) = i)) w1 := fun X j hX => by
    have hj : (if j < Nv then j else i) < Nv := by split <;> omega
    have hdX := hd1.below hX
    exact handle1_any (hdX.tasks _ hj) (s1.fr (Fr.of_below hX) (by have := s1.lt; omega)) (t1.fr (Fr.of_below hX) (by have := t1.lt; omega)) a1
  have hif := AnyE.slices_IndexFunc Tryz.laysIT (fun j : Nat => Value.pointer (some ⟨kb (if j < Nv then j else i), 0, none⟩)) (fun j => decide ((if j < Nv then j else i) = i)) 41 #[.pointer (some ⟨g, 0, none⟩), .pointer (some ⟨g + 1, 0, none⟩)]
    (enters_of Tryz.func41 (by kernel_rfl) rfl) g1 o1 Nv cv (List.range Nv) w1 hpred (by simp) (by omega) (fun j hj => by
      have hj' : j < Nv := by simpa using hj
      have := hc j _ (ptrsK_get kb Nv hj')
      rw [this]
      simp [hj'])
  have hidx : Lib.idxBy (fun _ y => decide ((if y < Nv then y else i) = i)) ((List.range Nv).take Nv) default = (i : Int) := by
    rw [List.take_of_length_le (by simp)]
    unfold Lib.idxBy
    rw [Lib.idxByFrom_hit _ _ _ i 0 (by simpa using hi) (by simp [hi]) (fun j hj => by
      have : j < Nv := by omega
      simp [this]
      omega)]
    simp
  rw [hidx] at hif
  have hif2 : Calls Tryz.prog 40 #[.slice (some ⟨g1, o1, none⟩) Nv cv, .func (.func 41) #[] #[.pointer (some ⟨g, 0, none⟩), .pointer (some ⟨g + 1, 0, none⟩)]] w1 fun e w' => e = .returned (.int .i64 (i : Int)) ∧ ∃ q, w' = w1.drewN q := hif
  have hqi := hc i _ (ptrsK_get kb Nv hi)
  have hltI : (i : Int) < (Nv : Int) := by omega
  have hi0 : (0 : Int) ≤ (i : Int) := by omega
  have HD1 := Lib.hid hd1
  have HB2 := Lib.hid ((HBW.out.trans (hB1.mono HBW.out.size)))
  have HS1 := Lib.hid s1
  have HT1 := Lib.hid t1
  have HQI := Lib.hid hqi
  have HG1 := Lib.hid hg1
  clear hd1 s1 t1 hqi hg1 hal hB1 hv hrd hc hpred hif hidx
  go_wp2_with fail
  with_reducible refine hif2.mono ?_
  rintro e w2 ⟨rfl, q, hw2⟩
  have hB12 : Below w1.heap.size w1 w2 := by rw [hw2]; exact Below.drewN (Below.refl _ _) q
  clear hw2 hif2
  have hd2 := HD1.out.below hB12
  have q1 : ∀ X, Below w2.heap.size w2 X → X.cell? ⟨g + 1, 0, none⟩ = some (.int .i64 cl) ∧ X.cell? ⟨g + 1, 2, none⟩ = some (.int .i64 lead) ∧ X.cell? ⟨g + 1, 3, none⟩ = some (.int .i64 22) ∧ X.cell? ⟨D, 0, none⟩ = some (.int .i64 cl) ∧ X.cell? ⟨D, 2, none⟩ = some (.int .i64 (k : Int)) ∧ X.cell? ⟨g1, o1 + i, none⟩ = some (.pointer (some ⟨kb i, 0, none⟩)) := fun X hX => by
    have hh := hB12.trans (hX.mono hB12.size)
    have u := HT1.out.fr (Fr.of_below hh) (by have := HT1.out.lt; omega)
    have d := (HD1.out.below hh).drv
    exact ⟨(u.cell 0).trans a0, (u.cell 2).trans a2, (u.cell 3).trans a3, d.cell 0, d.cell 2, (hh.cell (p := ⟨g1, o1 + i, none⟩) HG1.out).trans HQI.out⟩
  obtain ⟨ki, hki⟩ : ∃ b, kb i = b := ⟨_, rfl⟩
  simp only [hki] at q1
  obtain ⟨S0, hS0⟩ : ∃ S0 : World → Prop, (fun X => X.cell? ⟨g + 1, 0, none⟩ = some (.int .i64 cl) ∧ X.cell? ⟨g + 1, 2, none⟩ = some (.int .i64 lead) ∧ X.cell? ⟨D, 0, none⟩ = some (.int .i64 cl) ∧ X.cell? ⟨D, 2, none⟩ = some (.int .i64 (k : Int))) = S0 := ⟨_, rfl⟩
  have hSS : ∀ X, Below w2.heap.size w2 X → S0 X := fun X hX => by
    obtain ⟨p1, p2, p3, p4, p5, p6⟩ := q1 X hX
    rw [← hS0]
    exact ⟨p1, p2, p4, p5⟩
  have hBE : Below E w w2 := (HB2.out.trans (hB12.mono HB2.out.size)).mono HHE.out
  obtain ⟨-, -, p3, -, -, p6⟩ := q1 w2.drew (Below.refl _ _).drew
  have HD2 := Lib.hid hd2
  have HQ1 := Lib.hid q1
  have HSE := Lib.hid hS0
  have HSS := Lib.hid hSS
  have HBE := Lib.hid hBE
  have HKI := Lib.hid hki
  clear hd2 q1 hS0 hSS hBE hki hB12
  go_upto_region 3 with fail
  refine wp_txO [(0, 3), (2, 3), (3, 3), (4, 3), (1, 0), (5, 0), (6, 3), (7, 3), (8, 3), (9, 3), (10, 3)] S0 (by kernel_rfl) (by kernel_rfl) (by kernel_rfl) (by kernel_rfl) (HSS.out _ (Below.refl _ _).drew) ?_
  iterate 4 (with_reducible refine wpTxO_evN (o := ?_) (v := ?_) (a' := ?_) (by with_unfolding_all rfl) (by with_unfolding_all rfl) (fun W' => ?_) ?_ ?_; rotate_left 2; (focus (go_simp <;> with_reducible rfl)); focus (go_simp <;> with_reducible rfl))
  iterate 2 (with_reducible refine wpTxO_takeN (o := ?_) (v := ?_) (a' := ?_) (by with_unfolding_all rfl) (by with_unfolding_all rfl) (fun W' hS => ?_) ?_ ?_; rotate_left 2; (focus (rw [← HSE.out] at hS; obtain ⟨t1, t2, t3, t4⟩ := hS; go_simp <;> with_reducible rfl)); focus (go_simp <;> with_reducible rfl))
  iterate 5 (with_reducible refine wpTxO_evN (o := ?_) (v := ?_) (a' := ?_) (by with_unfolding_all rfl) (by with_unfolding_all rfl) (fun W' => ?_) ?_ ?_; rotate_left 2; (focus (go_simp <;> with_reducible rfl)); focus (go_simp <;> with_reducible rfl))
  with_reducible refine wpTxO_nil ?_
  rw [noPan_normal]
  have hil := fun X => islater_22 X
  have hil2 := hil w2.drew
  go_wp2_with fail
  with_reducible refine hil2.mono ?_
  rintro e w3 ⟨rfl, hw3⟩
  rw [hw3]
  clear hw3 hil hil2 p3 p6
  by_cases h0l : 0 ≤ lead
  · by_cases hlk : lead < (k : Int)
    · go_upto_region 9 with fail
      refine wp_txO [(0, 3), (1, 0), (2, 3), (3, 3), (4, 3), (6, 3), (7, 3), (8, 3), (5, 0), (9, 0), (10, 3), (11, 3)] S0 (by kernel_rfl) (by kernel_rfl) (by kernel_rfl) (by kernel_rfl) (HSS.out _ (Below.refl _ _).drew.drew) ?_
      iterate 1 (with_reducible refine wpTxO_evN (o := ?_) (v := ?_) (a' := ?_) (by with_unfolding_all rfl) (by with_unfolding_all rfl) (fun W' => ?_) ?_ ?_; rotate_left 2; (focus (go_simp <;> with_reducible rfl)); focus (go_simp <;> with_reducible rfl))
      iterate 1 (with_reducible refine wpTxO_takeN (o := ?_) (v := ?_) (a' := ?_) (by with_unfolding_all rfl) (by with_unfolding_all rfl) (fun W' hS => ?_) ?_ ?_; rotate_left 2; (focus (rw [← HSE.out] at hS; obtain ⟨t1, t2, t3, t4⟩ := hS; go_simp <;> with_reducible rfl)); focus (go_simp <;> with_reducible rfl))
      iterate 6 (with_reducible refine wpTxO_evN (o := ?_) (v := ?_) (a' := ?_) (by with_unfolding_all rfl) (by with_unfolding_all rfl) (fun W' => ?_) ?_ ?_; rotate_left 2; (focus (go_simp <;> with_reducible rfl)); focus (go_simp <;> with_reducible rfl))
      iterate 2 (with_reducible refine wpTxO_takeN (o := ?_) (v := ?_) (a' := ?_) (by with_unfolding_all rfl) (by with_unfolding_all rfl) (fun W' hS => ?_) ?_ ?_; rotate_left 2; (focus (rw [← HSE.out] at hS; obtain ⟨t1, t2, t3, t4⟩ := hS; go_simp <;> with_reducible rfl)); focus (go_simp <;> with_reducible rfl))
      iterate 2 (with_reducible refine wpTxO_evN (o := ?_) (v := ?_) (a' := ?_) (by with_unfolding_all rfl) (by with_unfolding_all rfl) (fun W' => ?_) ?_ ?_; rotate_left 2; (focus (go_simp <;> with_reducible rfl)); focus (go_simp <;> with_reducible rfl))
      with_reducible refine wpTxO_nil ?_
      rw [noPan_normal]
      have hBU : Below w2.heap.size w2 w2.drew.drew := (Below.refl _ _).drew.drew
      obtain ⟨U, hU⟩ : ∃ U, w2.drew.drew = U := ⟨_, rfl⟩
      rw [hU] at hBU
      have hdU := HD2.out.below hBU
      have hBEU := HBE.out.trans (hBU.mono (Nat.le_trans HHE.out HBE.out.size))
      obtain ⟨-, r2, -, -, -, -⟩ := HQ1.out U hBU
      have hkU := hdU.tasks i hi
      rw [HXI.out] at hkU
      have htold : toldP k lead xi.r = lead.toNat := by unfold toldP; rw [if_pos ⟨h0l, hlk⟩]
      obtain ⟨L, rfl⟩ : ∃ L : Nat, lead = L := ⟨lead.toNat, by omega⟩
      rw [Int.toNat_natCast] at htold
      have hLk : L < k := by omega
      have q75 := hkU.re
      have z75 := hkU.blk.frozen 75
      have q76 := hkU.co
      have z76 := hkU.blk.frozen 76
      have q77 := hkU.ch
      have z77 := hkU.blk.frozen 77
      have k5 := ((hkU.setR L).setC 1).setH true
      have f6 : Fr (fun b => b = kb i) U (((U.setCell ⟨kb i, 75, none⟩ (.int .i64 (L : Int))).setCell ⟨kb i, 76, none⟩ (.int .i64 1)).setCell ⟨kb i, 77, none⟩ (.bool true)) := (((Fr.refl (fun b => b = kb i) U).setCell (p := ⟨kb i, 75, none⟩) (fun _ => rfl) _).setCell (p := ⟨kb i, 76, none⟩) (fun _ => rfl) _).setCell (p := ⟨kb i, 77, none⟩) (fun _ => rfl) _
      obtain ⟨hdF, hBF, _⟩ := hdU.one hi f6 k5 hLk
      have hBF2 := hBEU.trans hBF
      rw [HKI.out] at hdF hBF2 q75 z75 q76 z76 q77 z77
      have HU := Lib.hid hU
      have HTOLD := Lib.hid htold
      have HDF := Lib.hid hdF
      have HBF := Lib.hid hBF2
      clear hU htold hdF hBF2 hkU hBU hdU hBEU k5 f6 hBF
      rw [HU.out]
      go_wp2_with fail
      go_end0
      exact ⟨rfl, ⟨out, R, by rw [HTOLD.out]; exact HDF.out⟩, HBF.out⟩
    · have hlk' : (k : Int) ≤ lead := by omega
      go_upto_region 9 with fail
      refine wp_txO [(0, 3), (1, 0), (2, 3), (3, 3), (4, 3), (6, 3), (7, 3), (8, 3), (5, 0), (9, 0), (10, 3), (11, 3)] S0 (by kernel_rfl) (by kernel_rfl) (by kernel_rfl) (by kernel_rfl) (HSS.out _ (Below.refl _ _).drew.drew) ?_
      iterate 1 (with_reducible refine wpTxO_evN (o := ?_) (v := ?_) (a' := ?_) (by with_unfolding_all rfl) (by with_unfolding_all rfl) (fun W' => ?_) ?_ ?_; rotate_left 2; (focus (go_simp <;> with_reducible rfl)); focus (go_simp <;> with_reducible rfl))
      iterate 1 (with_reducible refine wpTxO_takeN (o := ?_) (v := ?_) (a' := ?_) (by with_unfolding_all rfl) (by with_unfolding_all rfl) (fun W' hS => ?_) ?_ ?_; rotate_left 2; (focus (rw [← HSE.out] at hS; obtain ⟨t1, t2, t3, t4⟩ := hS; go_simp <;> with_reducible rfl)); focus (go_simp <;> with_reducible rfl))
      iterate 6 (with_reducible refine wpTxO_evN (o := ?_) (v := ?_) (a' := ?_) (by with_unfolding_all rfl) (by with_unfolding_all rfl) (fun W' => ?_) ?_ ?_; rotate_left 2; (focus (go_simp <;> with_reducible rfl)); focus (go_simp <;> with_reducible rfl))
      iterate 2 (with_reducible refine wpTxO_takeN (o := ?_) (v := ?_) (a' := ?_) (by with_unfolding_all rfl) (by with_unfolding_all rfl) (fun W' hS => ?_) ?_ ?_; rotate_left 2; (focus (rw [← HSE.out] at hS; obtain ⟨t1, t2, t3, t4⟩ := hS; go_simp <;> with_reducible rfl)); focus (go_simp <;> with_reducible rfl))
      iterate 2 (with_reducible refine wpTxO_evN (o := ?_) (v := ?_) (a' := ?_) (by with_unfolding_all rfl) (by with_unfolding_all rfl) (fun W' => ?_) ?_ ?_; rotate_left 2; (focus (go_simp <;> with_reducible rfl)); focus (go_simp <;> with_reducible rfl))
      with_reducible refine wpTxO_nil ?_
      rw [noPan_normal]
      have hBU : Below w2.heap.size w2 w2.drew.drew := (Below.refl _ _).drew.drew
      obtain ⟨U, hU⟩ : ∃ U, w2.drew.drew = U := ⟨_, rfl⟩
      rw [hU] at hBU
      have hdU := HD2.out.below hBU
      have hBEU := HBE.out.trans (hBU.mono (Nat.le_trans HHE.out HBE.out.size))
      obtain ⟨-, r2, -, -, -, -⟩ := HQ1.out U hBU
      have hkU := hdU.tasks i hi
      rw [HXI.out] at hkU
      have ht := turn_any hdU.drv hkU h1 h7 hri
      rw [HKI.out] at ht
      have htold : toldP k lead xi.r = (xi.r + 1) % k := by unfold toldP; rw [if_neg (by omega)]
      have hrr : (xi.r + 1) % k < k := Nat.mod_lt _ (by omega)
      have HU := Lib.hid hU
      have HDU := Lib.hid hdU
      have HBEU := Lib.hid hBEU
      have HTOLD := Lib.hid htold
      clear hU hdU hBEU htold hkU hBU r2
      rw [HU.out]
      go_wp2_with fail
      with_reducible refine ht.mono ?_
      rintro e w4 ⟨rfl, k4, f4⟩
      have q76 := k4.co
      have z76 := k4.blk.frozen 76
      have q77 := k4.ch
      have z77 := k4.blk.frozen 77
      have k5 := (k4.setC 1).setH true
      have f5 : Fr (fun b => b = ki) w4 ((w4.setCell ⟨ki, 76, none⟩ (.int .i64 1)).setCell ⟨ki, 77, none⟩ (.bool true)) := ((Fr.refl (fun b => b = ki) w4).setCell (p := ⟨ki, 76, none⟩) (fun _ => rfl) _).setCell (p := ⟨ki, 77, none⟩) (fun _ => rfl) _
      have f6 := f4.trans f5 (fun _ _ h => h)
      rw [← HKI.out] at k5 f6
      obtain ⟨hdF, hBF, _⟩ := HDU.out.one hi f6 k5 hrr
      rw [HKI.out] at hdF hBF
      have hBF2 := HBEU.out.trans hBF
      have HDF := Lib.hid hdF
      have HBF := Lib.hid hBF2
      clear hdF hBF2 ht k4 k5 f4 f5 f6 hBF
      go_wp2_with fail
      go_end0
      exact ⟨rfl, ⟨out, R, by rw [HTOLD.out]; exact HDF.out⟩, HBF.out⟩
  · have h0l' : lead < 0 := by omega
    have hd0 : decide ((0 : Int) ≤ lead) = false := by simpa using h0l'
    go_upto_region 9 with fail
    refine wp_txO [(0, 3), (1, 0), (2, 3), (3, 3), (4, 3), (5, 3), (6, 3), (7, 3), (8, 3), (9, 3), (10, 3), (11, 3)] S0 (by kernel_rfl) (by kernel_rfl) (by kernel_rfl) (by kernel_rfl) (HSS.out _ (Below.refl _ _).drew.drew) ?_
    iterate 1 (with_reducible refine wpTxO_evN (o := ?_) (v := ?_) (a' := ?_) (by with_unfolding_all rfl) (by with_unfolding_all rfl) (fun W' => ?_) ?_ ?_; rotate_left 2; (focus (go_simp <;> with_reducible rfl)); focus (go_simp <;> with_reducible rfl))
    iterate 1 (with_reducible refine wpTxO_takeN (o := ?_) (v := ?_) (a' := ?_) (by with_unfolding_all rfl) (by with_unfolding_all rfl) (fun W' hS => ?_) ?_ ?_; rotate_left 2; (focus (rw [← HSE.out] at hS; obtain ⟨t1, t2, t3, t4⟩ := hS; go_simp <;> with_reducible rfl)); focus (go_simp <;> with_reducible rfl))
    iterate 2 (with_reducible refine wpTxO_evN (o := ?_) (v := ?_) (a' := ?_) (by with_unfolding_all rfl) (by with_unfolding_all rfl) (fun W' => ?_) ?_ ?_; rotate_left 2; (focus (go_simp <;> with_reducible rfl)); focus (go_simp <;> with_reducible rfl))
    iterate 7 (with_reducible refine wpTxO_evd (o := ?_) (a' := ?_) (by with_unfolding_all rfl) (by with_unfolding_all rfl) ?_ ?_; rotate_left; focus (go_simp <;> with_reducible rfl))
    iterate 1 (with_reducible refine wpTxO_evN (o := ?_) (v := ?_) (a' := ?_) (by with_unfolding_all rfl) (by with_unfolding_all rfl) (fun W' => ?_) ?_ ?_; rotate_left 2; (focus (go_simp <;> with_reducible rfl)); focus (go_simp <;> with_reducible rfl))
    with_reducible refine wpTxO_nil ?_
    rw [noPan_normal]
    have hBU : Below w2.heap.size w2 w2.drew.drew := (Below.refl _ _).drew.drew
    obtain ⟨U, hU⟩ : ∃ U, w2.drew.drew = U := ⟨_, rfl⟩
    rw [hU] at hBU
    have hdU := HD2.out.below hBU
    have hBEU := HBE.out.trans (hBU.mono (Nat.le_trans HHE.out HBE.out.size))
    obtain ⟨-, r2, -, -, -, -⟩ := HQ1.out U hBU
    have hkU := hdU.tasks i hi
    rw [HXI.out] at hkU
    have ht := turn_any hdU.drv hkU h1 h7 hri
    rw [HKI.out] at ht
    have htold : toldP k lead xi.r = (xi.r + 1) % k := by unfold toldP; rw [if_neg (by omega)]
    have hrr : (xi.r + 1) % k < k := Nat.mod_lt _ (by omega)
    have HU := Lib.hid hU
    have HDU := Lib.hid hdU
    have HBEU := Lib.hid hBEU
    have HTOLD := Lib.hid htold
    clear hU hdU hBEU htold hkU hBU r2
    rw [HU.out]
    go_wp2_with fail
    with_reducible refine ht.mono ?_
    rintro e w4 ⟨rfl, k4, f4⟩
    have q76 := k4.co
    have z76 := k4.blk.frozen 76
    have q77 := k4.ch
    have z77 := k4.blk.frozen 77
    have k5 := (k4.setC 1).setH true
    have f5 : Fr (fun b => b = ki) w4 ((w4.setCell ⟨ki, 76, none⟩ (.int .i64 1)).setCell ⟨ki, 77, none⟩ (.bool true)) := ((Fr.refl (fun b => b = ki) w4).setCell (p := ⟨ki, 76, none⟩) (fun _ => rfl) _).setCell (p := ⟨ki, 77, none⟩) (fun _ => rfl) _
    have f6 := f4.trans f5 (fun _ _ h => h)
    rw [← HKI.out] at k5 f6
    obtain ⟨hdF, hBF, _⟩ := HDU.out.one hi f6 k5 hrr
    rw [HKI.out] at hdF hBF
    have hBF2 := HBEU.out.trans hBF
    have HDF := Lib.hid hdF
    have HBF := Lib.hid hBF2
    clear hdF hBF2 ht k4 k5 f4 f5 f6 hBF
    go_wp2_with fail
    go_end0
    exact ⟨rfl, ⟨out, R, by rw [HTOLD.out]; exact HDF.out⟩, HBF.out⟩
end Go.Proofs.YtdkanehjahpehaaGreatDoor
end

section
namespace Go.Proofs.YtdkanehjahpehaaGreatDoor
open Go.RowKit Go.Shelf
set_option maxRecDepth 100000

/-- A reply that is none. -/
def repZ : List Value := [.int .i64 0, .bool false, .int .i64 0, .int .i64 0] ++ bys (List.replicate 32 0) ++ [.int .u64 0, .int .i64 0, .int .i64 0, .slice none 0 0, .int .i64 0, .int .i64 0, .int .i64 0] ++ bys (List.replicate 64 0) ++ bys (List.replicate 32 0)
theorem bdTask_of (parts : Array (Nat × Value)) : Instr.build 117 parts = BDs 117 parts := rfl
theorem plTask : placesOf Tryz.prog 117 = some [(0, 73), (73, 1), (74, 1), (75, 1), (76, 1), (77, 1), (78, 1), (79, 139)] := by kernel_rfl
theorem zlTask : (((Tryz.prog.info? 117).bind (·.zero)).map (·.cells.toList)) = some (taskL (cmdV 0 none 0 none 0 zeroT) 0 0 ⟨0, 0, false⟩ repZ) := by kernel_rfl
theorem bdTask {cv : List Value} (hc : cv.length = 73) (s nu : Int) (w : World) : (BDs 117 #[(0, .agg cv.toArray), (1, .int .i64 s), (2, .int .i64 nu)]).run Tryz.prog w = .ok (.agg (taskL cv s nu ⟨0, 0, false⟩ repZ).toArray) w := by
  refine BDs_list plTask zlTask _ _ ?_ w
  have hz : (cmdV 0 none 0 none 0 zeroT).length = 73 := cmdV_len _ _ _ _ _ _
  have hr : repZ.length = 139 := by simp [repZ, bys_length]
  rw [fillL_cons (off := 0) (size := 73) rfl (by simp [Value.cells, hc]) (by simp [taskL, hz, hr])]
  have e1 : (taskL (cmdV 0 none 0 none 0 zeroT) 0 0 ⟨0, 0, false⟩ repZ).take 0 ++ (Value.agg cv.toArray).cells.toList ++ (taskL (cmdV 0 none 0 none 0 zeroT) 0 0 ⟨0, 0, false⟩ repZ).drop (0 + 73) = taskL cv 0 0 ⟨0, 0, false⟩ repZ := rfl
  rw [e1, fillL_cons (off := 73) (size := 1) rfl rfl (by simp [taskL, hc, hr])]
  have e2 : (taskL cv 0 0 ⟨0, 0, false⟩ repZ).take 73 ++ (Value.int .i64 s).cells.toList ++ (taskL cv 0 0 ⟨0, 0, false⟩ repZ).drop (73 + 1) = taskL cv s 0 ⟨0, 0, false⟩ repZ := by
    unfold taskL
    simp [Value.cells, hc, List.drop_append, List.drop_of_length_le (show cv.length ≤ 74 by omega)]
  rw [e2, fillL_cons (off := 74) (size := 1) rfl rfl (by simp [taskL, hc, hr]), fillL_nil]
  have e3 : (taskL cv s 0 ⟨0, 0, false⟩ repZ).take 74 ++ (Value.int .i64 nu).cells.toList ++ (taskL cv s 0 ⟨0, 0, false⟩ repZ).drop (74 + 1) = taskL cv s nu ⟨0, 0, false⟩ repZ := by
    unfold taskL
    simp [Value.cells, hc, List.take_append, List.drop_append, List.drop_of_length_le (show cv.length ≤ 75 by omega), List.take_of_length_le (show cv.length ≤ 74 by omega)]
  rw [e3]
theorem bdCmdT (A1 : Option Addr) (c1 : Nat) (A2 : Option Addr) (c2 : Nat) (t : TxD) (w : World) : (BDs 105 #[(0, .int .i64 3), (1, .agg (txV A1 c1 A2 c2 t)), (2, .slice none 0 0)]).run Tryz.prog w = .ok (.agg (cmdV 3 A1 c1 A2 c2 t).toArray) w := run_build w _ _ _ (by kernel_rfl)

/-- The first requests. -/
def reqs0 (cl : Int) : Nat → List (Int × Int × Int × Int)
  | 0 => []
  | i + 1 => reqs0 cl i ++ [((i : Int), 0, cl, (i : Int) + 1)]
theorem reqs0_len (cl : Int) : ∀ i, (reqs0 cl i).length = i
  | 0 => rfl
  | i + 1 => by simp [reqs0, reqs0_len cl i]
/-- A driver whose tasks are being made. -/
structure DrvB (E : Nat) (w : World) (D : Nat) (cl n : Int) (k : Nat) (A1 : Option Addr) (c1 : Nat) (A2 : Option Addr) (c2 : Nat) (t : TxD) (i : Nat) (kb : Nat → Nat) (v out : Value) (R : List (List Value)) : Prop where
  drv : Blk w D 97 (drvV cl n k A1 c1 A2 c2 t (.slice none 0 0) (.slice none 0 0) (i : Int) 0 out)
  tasks : ∀ j, j < i → IsTask w (kb j) (cmdV 3 A1 c1 A2 c2 t) (j : Int) ((j : Int) + 1) ⟨0, 12, false⟩ repZ
  ne : ∀ a b, a < i → b < i → a ≠ b → kb a ≠ kb b
  row : OwnP E w v (ptrsK kb i)
  own : OwnR 41 5 E w out R
  reqs : Reqs R (reqs0 cl i)
  tx : ∀ X, Below E w X → TxAt X A1 A2 t
  lo : E ≤ D ∧ ∀ j, j < i → E ≤ kb j
  hi : E ≤ w.heap.size
theorem ptrsK_snoc (kb : Nat → Nat) (i kn : Nat) : ptrsK (fun j => if j = i then kn else kb j) (i + 1) = ptrsK kb i ++ [.pointer (some ⟨kn, 0, none⟩)] := by
  unfold ptrsK
  rw [List.range_succ, List.map_append]
  congr 1
  · refine List.map_congr_left fun j hj => ?_
    have hji : j < i := by simpa using hj
    have hjn : ¬ j = i := by omega
    simp [hjn]
  · simp
attribute [local go_sem ↓] ldTx_ofY bdCmd_of bdTask_of apP_of

set_option maxHeartbeats 16000000 in
theorem tasks_any {E : Nat} {w : World} {D : Nat} {cl n : Int} {k : Nat} {A1 : Option Addr} {c1 : Nat} {A2 : Option Addr} {c2 : Nat} {t : TxD} {kb0 : Nat → Nat} {N : Nat} {As : Option Addr} {cs : Nat} {l : List Int}
    (h : DrvB E w D cl n k A1 c1 A2 c2 t 0 kb0 (.slice none 0 0) (.slice none 0 0) []) (hck : checkP t = 0) (hL : 70 < (lockF t).length) (hN : N ≤ 64) (hl : l.length = N) (hr : RdW .i64 w As l) (hlj : ∀ j, j < N → l.getD j 0 = (j : Int)) (hAD : ∀ a, As = some a → a.block ≠ D) :
    Calls Tryz.prog 30 #[.pointer (some ⟨D, 0, none⟩), .int .i64 3, .slice As l.length cs, .slice none 0 0] w fun e w' => ∃ v kb out R, e = .returned v ∧ DrvB E w' D cl n k A1 c1 A2 c2 t N kb v out R ∧ Fr (fun b => b = D) w w' := by
  rw [hl]
  have hE := h.hi
  have hbc := bdCmdT A1 c1 A2 c2 t
  have hcl := cmdV_len 3 A1 c1 A2 c2 t
  have hbt := fun s nu X => bdTask hcl s nu X
  have hsnd := fun (ws : World) (kn i : Nat) (ou : Value) (R : List (List Value)) (num oc : Int) (first last : Value) (Q : List (Int × Int × Int × Int)) ht h hk hO hR hB hQ => send_any (w := ws) (B := E) (D := D) (cl := cl) (n := n) (k := (k : Int)) (A1 := A1) (c1 := c1) (A2 := A2) (c2 := c2) (t := t) (first := first) (last := last) (num := num) (oc := oc) (out := ou) (kb := kn) (post := repZ) (s := (i : Int)) (nu := (i : Int) + 1) (x := ⟨0, 0, false⟩) (R := R) (Q := Q) hck hL ht h hk hO hR hB hQ
  obtain ⟨cv, hcv⟩ : ∃ x, cmdV 3 A1 c1 A2 c2 t = x := ⟨_, rfl⟩
  obtain ⟨tv, htv⟩ : ∃ x, txV A1 c1 A2 c2 t = x := ⟨_, rfl⟩
  obtain ⟨cw, hcw⟩ : ∃ x, cv.toArray = x := ⟨_, rfl⟩
  simp only [hcv] at hbt hsnd hcl
  simp only [hcv, htv] at hbc
  simp only [hcw] at hbc hbt
  have H := Lib.hid h
  have HR := Lib.hid hr
  have HAD := Lib.hid hAD
  have HLJ := Lib.hid hlj
  have HSND := Lib.hid hsnd
  have HCV := Lib.hid hcv
  have HTV := Lib.hid htv
  have HLL := Lib.hid hl
  have HCK := Lib.hid hck
  have HL := Lib.hid hL
  have HCL := Lib.hid hcl
  have HBT := Lib.hid hbt
  clear h hr hAD hlj hsnd hcv htv hl hck hL hcl hbt hcw
  go_enter Tryz.func30, Tryz.ntmps30
  go_wp2_with fail
  go_loopg [8, 10, 11, 14] N (fun kk v _ _ c wr => ∃ (i : Nat) (kb : Nat → Nat) (out : Value) (R : List (List Value)), i + kk = N ∧ c = .int .i64 (i : Int) ∧ DrvB E wr D cl n k A1 c1 A2 c2 t i kb v out R ∧ Fr (fun b => b = D) w wr ∧ (∀ b, v.ownBlock = some b → w.heap.size ≤ b) ∧ ∀ b, out.ownBlock = some b → w.heap.size ≤ b)
  case atStart => exact ⟨0, kb0, _, _, by omega, rfl, H.out, Fr.refl _ _, (fun b hb => by cases hb), fun b hb => by cases hb⟩
  case round =>
    obtain ⟨i, kb, out, R, hi, rfl, hd, hFD, hvw, how⟩ := hrel
    have hrw : RdW .i64 wr As l := fun h0 => by
      obtain ⟨g, o, e, hg, hc⟩ := HR.out h0
      exact ⟨g, o, e, Nat.lt_of_lt_of_le hg hFD.size, fun j x hx => (hFD.cell (p := ⟨g, o + j, none⟩) hg (HAD.out ⟨g, o, none⟩ e)).trans (hc j x hx)⟩
    by_cases hlt : i < N
    · have hltI : (i : Int) < (N : Int) := by omega
      have hi0 : (0 : Int) ≤ (i : Int) := by omega
      have hil : i < l.length := by rw [HLL.out]; exact hlt
      obtain ⟨g, o, rfl, hg, hc0⟩ := hrw (by omega)
      have hgi : l[i]? = some (i : Int) := by
        have := HLJ.out i hlt
        simp only [List.getD, hil, List.getElem?_eq_getElem, Option.getD_some] at this
        rw [List.getElem?_eq_getElem hil, this]
      have hc := hc0 i _ hgi
      have q9 : wr.cell? ⟨D, 9, none⟩ = some (.int .i64 (i : Int)) := hd.drv.cell 9
      have z9 := hd.drv.frozen 9
      have hwr : IntKind.i64.wrap ((i : Int) + 1) = (i : Int) + 1 := by rw [IntKind.wrap_i64]; omega
      have d1 : Blk (wr.setCell ⟨D, 9, none⟩ (.int .i64 ((i : Int) + 1))) D 97 (drvV cl n k A1 c1 A2 c2 t (.slice none 0 0) (.slice none 0 0) ((i : Int) + 1) 0 out) := by simpa [drvV] using hd.drv.set_ 9 (.int .i64 ((i : Int) + 1))
      have f1 : Fr (fun b => b = D) wr (wr.setCell ⟨D, 9, none⟩ (.int .i64 ((i : Int) + 1))) := (Fr.refl (fun b => b = D) wr).setCell (p := ⟨D, 9, none⟩) (fun _ => rfl) _
      have hDw := hd.drv.lt
      obtain ⟨w1, hw1⟩ : ∃ X, wr.setCell ⟨D, 9, none⟩ (.int .i64 ((i : Int) + 1)) = X := ⟨_, rfl⟩
      rw [hw1] at d1 f1
      have hs1 := f1.size
      obtain ⟨S0, hS0⟩ : ∃ S0 : World → Prop, (fun X => (LDs 26 (.pointer (some ⟨D, 3, none⟩))).run Tryz.prog X = .ok (.agg tv) X ∧ X.cell? ⟨D, 9, none⟩ = some (.int .i64 ((i : Int) + 1))) = S0 := ⟨_, rfl⟩
      have hS1 : S0 w1.drew := by
        rw [← hS0]
        have := LDs_aggB (P := Tryz.prog) uTxY iTxY d1.drew (off := 3) (txV A1 c1 A2 c2 t).toList rfl rfl
        rw [show (txV A1 c1 A2 c2 t).toList.toArray = txV A1 c1 A2 c2 t by simp, HTV.out] at this
        exact ⟨this, d1.drew.cell 9⟩
      obtain ⟨kc, hkc⟩ : ∃ x, (taskL cv (i : Int) ((i : Int) + 1) ⟨0, 0, false⟩ repZ).toArray = x := ⟨_, rfl⟩
      have hbt1 := fun X => HBT.out (i : Int) ((i : Int) + 1) X
      simp only [hkc] at hbt1
      obtain ⟨kn, hkn⟩ : ∃ x, w1.heap.size = x := ⟨_, rfl⟩
      have k2 : Blk (w1.alloc (.cells kc 117)).drew kn 117 kc := by rw [← hkn]; exact (Blk.new w1 _ kc).drew
      have B2 : Below w1.heap.size w1 (w1.alloc (.cells kc 117)).drew := ((Below.refl _ w1).alloc (Nat.le_refl _) _).drew
      obtain ⟨w2, hw2⟩ : ∃ X, (w1.alloc (.cells kc 117)).drew = X := ⟨_, rfl⟩
      rw [hw2] at k2 B2
      have f2 : Fr (fun b => b = D) wr w2 := f1.trans (Fr.of_below B2) (fun b hb e => by omega)
      have d2 := d1.fr (Fr.of_below B2) (by have := d1.lt; omega)
      have hoD : ∀ b, out.ownBlock = some b → ¬ b = D := fun b hb e => own_ne hd.own.own hd.drv (by decide) (e ▸ hb)
      have hvD : ∀ b, Value.ownBlock _ = some b → ¬ b = D := fun b hb e => own_ne hd.row hd.drv (by decide) (e ▸ hb)
      have o2 := hd.own.fr f2 hoD
      have v2 := hd.row.fr f2 hvD
      have kne : ∀ j, j < i → kb j < wr.heap.size ∧ kb j ≠ D := fun j hj => ⟨(hd.tasks j hj).blk.lt, fun e => hd.drv.ne_ (hd.tasks j hj).blk (by decide) e.symm⟩
      have t2 : ∀ j, j < i → IsTask w2 (kb j) cv (j : Int) ((j : Int) + 1) ⟨0, 12, false⟩ repZ := fun j hj => by
        have := (hd.tasks j hj).fr f2 (show ¬ _ = _ from (kne j hj).2)
        rwa [HCV.out] at this
      have hBE2 : Below E wr w2 := f2.below hd.hi (fun b hb e => by have := hd.lo.1; omega)
      have hkt : IsTask w2 kn cv (i : Int) ((i : Int) + 1) ⟨0, 0, false⟩ repZ := ⟨by rw [hkc]; exact k2, HCL.out⟩
      have hsd := HSND.out w2 kn i out R ((i : Int) + 1) 0 (.slice none 0 0) (.slice none 0 0) (reqs0 cl i) (hd.tx w2 hBE2) d2 hkt o2 hd.reqs (Nat.le_trans hd.hi f2.size) (by rw [reqs0_len]; omega)
      have hkng : wr.heap.size ≤ kn := by omega
      have hrw2 : ∀ X, Fr (fun b => E ≤ b) w2 X → True := fun _ _ => trivial
      have hreqs : reqs0 cl (i + 1) = reqs0 cl i ++ [((i : Int), 0, cl, (i : Int) + 1)] := rfl
      have hw2' : w1.heap.size = kn := hkn
      have HD := Lib.hid hd
      have HW1 := Lib.hid hw1
      have HSE := Lib.hid hS0
      have HS1 := Lib.hid hS1
      have HW2 := Lib.hid hw2
      have HKN := Lib.hid hkn
      have HF2 := Lib.hid f2
      have HV2 := Lib.hid v2
      have HT2 := Lib.hid t2
      have HKNE := Lib.hid kne
      have HFD := Lib.hid hFD
      have HVW := Lib.hid hvw
      have HOW := Lib.hid how
      have HKNG := Lib.hid hkng
      have HOD := Lib.hid hoD
      have HVD := Lib.hid hvD
      clear hd hw1 hS0 hS1 hw2 hkn f2 v2 t2 kne hFD hvw how hkng hoD hvD hrw hc0 hgi hil d1 f1 hs1 hkc k2 B2 d2 o2 hBE2 hkt hrw2 hw2' hDw
      go_upto_region 5 with fail
      rw [HW1.out]
      clear q9 z9 hc
      refine wp_txO [(0, 3), (1, 3), (2, 3), (3, 3), (5, 3), (7, 3), (8, 3), (9, 3), (10, 3), (4, 0), (6, 3), (11, 0), (12, 3), (13, 2), (14, 3)] S0 (by kernel_rfl) (by kernel_rfl) (by kernel_rfl) (by kernel_rfl) HS1.out ?_
      iterate 9 (with_reducible refine wpTxO_evN (o := ?_) (v := ?_) (a' := ?_) (by with_unfolding_all rfl) (by with_unfolding_all rfl) (fun W' => ?_) ?_ ?_; rotate_left 2; (focus (go_simp <;> with_reducible rfl)); focus (go_simp <;> with_reducible rfl))
      iterate 1 (with_reducible refine wpTxO_takeN (o := ?_) (v := ?_) (a' := ?_) (by with_unfolding_all rfl) (by with_unfolding_all rfl) (fun W' hS => ?_) ?_ ?_; rotate_left 2; (focus (rw [← HSE.out] at hS; obtain ⟨t1, t2⟩ := hS; go_simp <;> with_reducible rfl)); focus (go_simp <;> with_reducible rfl))
      iterate 1 (with_reducible refine wpTxO_evN (o := ?_) (v := ?_) (a' := ?_) (by with_unfolding_all rfl) (by with_unfolding_all rfl) (fun W' => ?_) ?_ ?_; rotate_left 2; (focus (go_simp <;> with_reducible rfl)); focus (go_simp <;> with_reducible rfl))
      iterate 1 (with_reducible refine wpTxO_takeN (o := ?_) (v := ?_) (a' := ?_) (by with_unfolding_all rfl) (by with_unfolding_all rfl) (fun W' hS => ?_) ?_ ?_; rotate_left 2; (focus (rw [← HSE.out] at hS; obtain ⟨t1, t2⟩ := hS; go_simp <;> with_reducible rfl)); focus (go_simp <;> with_reducible rfl))
      iterate 1 (with_reducible refine wpTxO_evN (o := ?_) (v := ?_) (a' := ?_) (by with_unfolding_all rfl) (by with_unfolding_all rfl) (fun W' => ?_) ?_ ?_; rotate_left 2; (focus (go_simp <;> with_reducible rfl)); focus (go_simp <;> with_reducible rfl))
      with_reducible refine wpTxO_last (o := ?_) (by with_unfolding_all rfl) (by with_unfolding_all rfl) (fun K hK => ?_)
      try simp only [List.getElem_toArray, List.getElem_cons_succ, List.getElem_cons_zero]
      go_simp
      with_reducible refine hK _ _ ?_
      clear hK K
      iterate 1 (with_reducible refine wpTxO_evN (o := ?_) (v := ?_) (a' := ?_) (by with_unfolding_all rfl) (by with_unfolding_all rfl) (fun W' => ?_) ?_ ?_; rotate_left 2; (focus (go_simp <;> with_reducible rfl)); focus (go_simp <;> with_reducible rfl))
      with_reducible refine wpTxO_nil ?_
      rw [noPan_normal]
      rw [HW2.out, HKN.out]
      go_wp2_with fail
      with_reducible refine hsd.mono ?_
      rintro e w3 ⟨rfl, o3, R3, hb3, ho3, hr3, ht3, hf3, hft3⟩
      have f3 : Fr (fun b => b = D ∨ out.ownBlock = some b) wr w3 := (HF2.out.mono (G := fun b => b = D ∨ out.ownBlock = some b) (fun _ _ e => .inl e)).trans hf3 (fun b hb e => by
        rcases e with e | e | e
        · exact .inl e
        · have := HKNG.out; omega
        · exact .inr e)
      have kOut : ∀ j, j < i → ¬ (kb j = D ∨ out.ownBlock = some (kb j)) := fun j hj e => by
        rcases e with e | e
        · exact (HKNE.out j hj).2 e
        · exact own_ne HD.out.own.own (HD.out.tasks j hj).blk (by decide) e
      have v3 := HD.out.row.fr f3 (fun b hb e => by
        rcases e with e | e
        · exact HVD.out b hb e
        · exact own_apart HD.out.row HD.out.own.own (by decide) hb e)
      have t3 : ∀ j, j < i → IsTask w3 (kb j) cv (j : Int) ((j : Int) + 1) ⟨0, 12, false⟩ repZ := fun j hj => by
        have := (HD.out.tasks j hj).fr f3 (kOut j hj)
        rwa [HCV.out] at this
      have hBE3 : Below E wr w3 := f3.below HD.out.hi (fun b hb e => by
        rcases e with e | e
        · have := HD.out.lo.1; omega
        · have := (HD.out.own.lt e).1; omega)
      have hh3 := f3.size
      have hk3 := ht3.blk.lt
      obtain ⟨Av, Nv, cvv, hvv, hNv⟩ := v3.formN
      obtain ⟨v4, w4, hap, v4o, f4, ft4⟩ := appP_one (ty := 95) (x := .pointer (some ⟨kn, 0, none⟩)) v3 rfl (by rw [ptrsK_len]; omega) (Nat.le_trans HD.out.hi hh3)
      obtain ⟨A4, N4, c4, rfl, hN4⟩ := v4o.formN
      have row4 : OwnP E w4 (.slice A4 N4 c4) (ptrsK (fun j => if j = i then kn else kb j) (i + 1)) := by rw [ptrsK_snoc]; exact v4o
      have d4 := hb3.fr f4 (fun e => own_ne v3 hb3 (by decide) e)
      have o4 := ho3.fr f4 (fun b hb e => own_apart v3 ho3.own (by decide) e hb)
      have t4 : ∀ j, j < i + 1 → IsTask w4 ((fun j => if j = i then kn else kb j) j) cv (j : Int) ((j : Int) + 1) ⟨0, 12, false⟩ repZ := fun j hj => by
        by_cases hji : j = i
        · subst hji
          simp only [if_true]
          exact ht3.fr f4 (fun e => own_ne v3 ht3.blk (by decide) e)
        · simp only [hji, if_false]
          exact (t3 j (by omega)).fr f4 (fun e => own_ne v3 (t3 j (by omega)).blk (by decide) e)
      have n4 : ∀ a b, a < i + 1 → b < i + 1 → a ≠ b → (fun j => if j = i then kn else kb j) a ≠ (fun j => if j = i then kn else kb j) b := fun a b ha hb hab => by
        have h1 := HKNG.out
        by_cases ea : a = i
        · by_cases eb : b = i
          · omega
          · have := (HKNE.out b (by omega)).1
            simp only [ea, eb, if_true, if_false]
            omega
        · have := (HKNE.out a (by omega)).1
          by_cases eb : b = i
          · simp only [ea, eb, if_true, if_false]
            omega
          · simp only [ea, eb, if_false]
            exact HD.out.ne a b (by omega) (by omega) hab
      have hBE4 : Below E wr w4 := hBE3.trans (f4.below (Nat.le_trans HD.out.hi hh3) (fun b hb e => by have := (v3.lt e).1; omega))
      have hfin : DrvB E w4 D cl n k A1 c1 A2 c2 t (i + 1) (fun j => if j = i then kn else kb j) (.slice A4 N4 c4) o3 R3 := ⟨by rw [Int.natCast_add]; exact d4, by rw [HCV.out]; exact t4, n4, row4, o4, hr3, fun X hX => HD.out.tx X (hBE4.trans hX), ⟨HD.out.lo.1, fun j hj => by
        by_cases hji : j = i
        · simp only [hji, if_true]; have := HKNG.out; have := HD.out.hi; omega
        · simp only [hji, if_false]; exact HD.out.lo.2 j (by omega)⟩, Nat.le_trans HD.out.hi (Nat.le_trans hh3 f4.size)⟩
      have hfd4 : Fr (fun b => b = D) w w4 := (HFD.out.trans f3 (fun b hb e => by
        rcases e with e | e
        · exact e
        · have := HOW.out _ e; omega)).trans f4 (fun b hb e => by have := HVW.out _ e; omega)
      have hww := HFD.out.size
      have hvw4 : ∀ b, (Value.slice A4 N4 c4).ownBlock = some b → w.heap.size ≤ b := fun b hb => by
        rcases ft4 b hb with e | e
        · exact HVW.out b e
        · omega
      have how4 : ∀ b, o3.ownBlock = some b → w.heap.size ≤ b := fun b hb => by
        rcases hft3 b hb with e | e
        · exact HOW.out b e
        · have := HF2.out.size; omega
      have HFIN := Lib.hid hfin
      have HFD4 := Lib.hid hfd4
      have HVW4 := Lib.hid hvw4
      have HOW4 := Lib.hid how4
      clear hfin hfd4 hvw4 how4 hb3 ho3 hr3 ht3 hf3 hft3 f3 kOut v3 t3 hBE3 hh3 hk3 hNv v4o f4 ft4 hN4 row4 d4 o4 t4 n4 hBE4 hsd
      subst hvv
      go_wp2_with fail
      go_roundg (N - (i + 1))
      case measure => omega
      case rel => exact ⟨i + 1, _, o3, R3, by omega, by go_num, HFIN.out, HFD4.out, HVW4.out, HOW4.out⟩
    · obtain rfl : i = N := by omega
      go_wp2_with fail
      go_ret
      exact ⟨_, kb, out, R, rfl, hd, hFD⟩
end Go.Proofs.YtdkanehjahpehaaGreatDoor
end
