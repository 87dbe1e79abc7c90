/-
  ChestKeeps: the walk.
-/
import Derived.Test.YtohadeijmmmcdaaDoorKpX
namespace Go.Proofs.YtohadeijmmmcdaaDoor
open Go Go.RowKit Machine
set_option maxRecDepth 100000

section
attribute [local go_sem ↓] ld75 st75 al75 bd75 apt33_of apt91_of
attribute [local go_sem] al75_new bd75_3

set_option maxHeartbeats 16000000 in
theorem chkeeps_law (A : Option Addr) (c : Nat) (l : List ActD) (w : World) (hl : Acts w A l) (hm : l.length ≤ maxLen) (hg : Glob w) :
    Calls Tryd.prog 13 #[.slice A l.length c] w fun e w' => e = .returned (.bool true) ∧ Below w.heap.size w w' := by
  have hgr := great14 A c l w hl hm
  obtain ⟨n, hN⟩ : ∃ n, l.length = n := ⟨_, rfl⟩
  rw [hN] at hgr hm ⊢
  have HL := Lib.hid hl
  have HN := Lib.hid hN
  have HG := Lib.hid hg
  clear hl hN hg
  go_enter Tryd.func13, Tryd.ntmps13
  go_wp2_with fail
  with_reducible refine hgr.mono ?_
  rintro e w1 ⟨⟨R, rfl, hR⟩, hk⟩
  have HB1 : Below w.heap.size w w1 := by obtain ⟨k, rfl⟩ := hk; exact below_drewN (Below.refl _ _) k
  have h1s : w1.heap.size = w.heap.size := by obtain ⟨k, rfl⟩ := hk; rfl
  have hg1 := HG.out.below HB1
  have aw := awake14 w1 hg1
  have HR := Lib.hid hR
  clear hk hgr hR
  cases R with
  | true =>
    go_wp2_with fail
    with_reducible refine aw.mono ?_
    rintro e w2 ⟨rfl, c2⟩
    have C2 := Lib.hid (HB1.trans (c2.mono HB1.size))
    clear c2 aw
    go_wp2_with fail
    go_ret
    exact ⟨rfl, C2.out⟩
  | false =>
    clear aw
    obtain ⟨hn30, hall⟩ := HR.out rfl
    rw [HN.out] at hn30
    have HALL := Lib.hid hall
    clear hall HR
    have f3 := new_drum 24 w1 (by omega) (by omega)
    rw [show ((24 : Nat) : Int) = 24 from rfl] at f3
    go_wp2_with fail
    with_reducible refine f3.mono ?_
    rintro e w3 ⟨rfl, d3, c3⟩
    have at3 := At.new HG.out HG.out.size HB1 24 d3 c3
    rw [h1s] at at3 ⊢
    clear f3 d3 c3
    obtain ⟨x, s, S, e1, e2, e3, hI⟩ := KInv.first
    have f4 := copen_n at3 rfl (by simp [DS.new]) (by simp [DS.new]) (by rw [e1])
    rw [e1] at f4
    simp only at f4
    have HI := Lib.hid hI
    have HE2 := Lib.hid e2
    have HE3 := Lib.hid e3
    have HF4 := Lib.hid f4
    clear at3 hI e1 e2 e3 f4
    go_wp2_with fail
    with_reducible refine HF4.out.mono ?_
    rintro e w4 ⟨r, nv, rfl, hN4, hv4, _⟩
    have pq := peq65 r
    have hs4 := hN4.at_.size
    have hb5 : Byt (w4.alloc (.cells #[] 5)) (some ⟨w4.heap.size, 0, none⟩) [] := ⟨fun h => by simp at h, fun x hx => by cases hx⟩
    have b5 : Below w4.heap.size w4 (w4.alloc (.cells #[] 5)) := (Below.refl _ _).alloc (Nat.le_refl _) _
    obtain ⟨c6, b6⟩ := one_txt w.heap.size (w4.alloc (.cells #[] 5)) (d := 0) hb5 (by simp) (by simp) (fun a ha h0 => by simp at h0)
    rw [show ([] : List Int).length = 0 from rfl] at c6 b6
    rw [World.size_alloc] at c6
    have b46 := b5.trans (b6.mono b5.size)
    have k6 : KpS w (w.heap.size + 1) w.heap.size 1 r 1 1 1 nv false ((w4.alloc (.cells #[] 5)).alloc (.cells #[.slice (some ⟨w4.heap.size, 0, none⟩) 0 0] 22)) :=
      ⟨_, _, _, 0, 1, [[]], [[]], hN4.after b46, HI.out, HE2.out, by rw [HE3.out]; simp, by omega, rfl, fun _ => ⟨rfl, by omega⟩⟩
    have hnv := hN4.nvb
    have t7 : TrV w.heap.size nv (((w4.alloc (.cells #[] 5)).alloc (.cells #[.slice (some ⟨w4.heap.size, 0, none⟩) 0 0] 22)).alloc (.cells #[.int .i64 1, .slice (some ⟨w4.heap.size + 1, 0, none⟩) 1 1] 90)) (.slice (some ⟨w4.heap.size + 1 + 1, 0, none⟩) 1 1) [(1, [[]])] := by
      have t := TrV.one (nv := nv) c6 (fun a ha _ e => by
        cases ha
        obtain ⟨_, cs, hb⟩ := hnv _ e
        have h9 := hb.lt
        change w4.heap.size + 1 < w4.heap.size at h9
        omega) (Nat.le_trans hs4 b46.size) 1
      rw [World.size_alloc, World.size_alloc] at t
      exact t
    have b7 : Below ((w4.alloc (.cells #[] 5)).alloc (.cells #[.slice (some ⟨w4.heap.size, 0, none⟩) 0 0] 22)).heap.size ((w4.alloc (.cells #[] 5)).alloc (.cells #[.slice (some ⟨w4.heap.size, 0, none⟩) 0 0] 22)) (((w4.alloc (.cells #[] 5)).alloc (.cells #[.slice (some ⟨w4.heap.size, 0, none⟩) 0 0] 22)).alloc (.cells #[.int .i64 1, .slice (some ⟨w4.heap.size + 1, 0, none⟩) 1 1] 90)) := (Below.refl _ _).alloc (Nat.le_refl _) _
    have kr : KpR w (w.heap.size + 1) w.heap.size 1 r 1 1 0 (w4.heap.size + 1 + 1) 1 1 (((w4.alloc (.cells #[] 5)).alloc (.cells #[.slice (some ⟨w4.heap.size, 0, none⟩) 0 0] 22)).alloc (.cells #[.int .i64 1, .slice (some ⟨w4.heap.size + 1, 0, none⟩) 1 1] 90)) :=
      ⟨1, nv, false, _, k6.below b7, ⟨t7, ⟨by simp, fun _ => rfl⟩, by simp, by simp⟩, rfl⟩
    have HKR := Lib.hid kr
    clear hN4 hv4 hb5 b5 c6 b6 b46 k6 hnv t7 b7 kr HF4 HI HE2 HE3 hs4 hg1
    go_wp2_with fail
    go_loopg [4, 5, 6, 7, 8, 9, 10, 11, 12] n (fun kk cv ev tv uv hv sv iv av xv wr => ∃ (j r T k cur g m c : Nat), j + kk = n ∧ cv = .pointer (some ⟨r, 0, none⟩) ∧ tv = .slice (some ⟨g, 0, none⟩) m c ∧ uv = .int .i64 (cur : Int) ∧ hv = .int .i64 (T : Int) ∧ sv = .int .i64 (k : Int) ∧ iv = .int .i64 (j : Int) ∧ KpR w (w.heap.size + 1) w.heap.size (j + 1) r T k cur g m c wr)
    case atStart => exact ⟨0, r, 1, 1, 0, _, 1, 1, by omega, rfl, rfl, rfl, rfl, rfl, rfl, HKR.out⟩
    case round =>
      clear HKR
      obtain ⟨j, r, T, k, cur, g, m, ct, hj, rfl, rfl, rfl, rfl, rfl, rfl, hR⟩ := hrel
      by_cases hlt : j < n
      · have hltI : (j : Int) < (n : Int) := by omega
        obtain ⟨ga, oa, rfl, hga, hact⟩ := HL.out j (by rw [HN.out]; exact hlt)
        have hal := HALL.out _ (List.getElem_mem (show j < l.length by rw [HN.out]; exact hlt))
        obtain ⟨a, ha⟩ : ∃ a, l[j]'(by rw [HN.out]; exact hlt) = a := ⟨_, rfl⟩
        rw [ha] at hact hal
        obtain ⟨hwr, hxr, c0, c1', ⟨AB, cb, c2, hbB, _⟩, ⟨AM, cm, c3, hbM, _⟩⟩ := hact
        have hbel := hR.at_.1
        have d0 : wr.cell? ⟨ga, oa + j * 4, none⟩ = some (.int .i64 a.what) := (hbel.cell (p := ⟨ga, _, none⟩) hga).trans c0
        have d1 : wr.cell? ⟨ga, oa + j * 4 + 1, none⟩ = some (.int .i64 a.where_) := (hbel.cell (p := ⟨ga, _, none⟩) hga).trans c1'
        have d2 : wr.cell? ⟨ga, oa + j * 4 + 2, none⟩ = some (.slice AB a.b.length cb) := (hbel.cell (p := ⟨ga, _, none⟩) hga).trans c2
        have d3 : wr.cell? ⟨ga, oa + j * 4 + 3, none⟩ = some (.slice AM a.m.length cm) := (hbel.cell (p := ⟨ga, _, none⟩) hga).trans c3
        obtain ⟨aw, haw⟩ : ∃ aw, a.what = aw := ⟨_, rfl⟩
        obtain ⟨ax, hax⟩ : ∃ ax, a.where_ = ax := ⟨_, rfl⟩
        obtain ⟨ab, hab⟩ : ∃ ab, a.b = ab := ⟨_, rfl⟩
        obtain ⟨am, ham⟩ : ∃ am, a.m = am := ⟨_, rfl⟩
        rw [haw] at d0
        rw [hax] at d1 hxr
        rw [hab] at d2 hbB
        rw [ham] at d3 hbM
        have hab3 : ab.length ≤ 300 := by rw [← hab]; exact hal.1
        have ham8 : am.length ≤ 80 := by rw [← ham]; exact hal.2
        obtain ⟨nb, hnb⟩ : ∃ nb, ab.length = nb := ⟨_, rfl⟩
        obtain ⟨nm, hnm⟩ : ∃ nm, am.length = nm := ⟨_, rfl⟩
        rw [hnb] at d2
        rw [hnm] at d3
        have HNB := Lib.hid hnb
        have HNM := Lib.hid hnm
        have HAB3 := Lib.hid hab3
        have HAM8 := Lib.hid ham8
        have HBB := Lib.hid hbB
        have HBM := Lib.hid hbM
        have HAX := Lib.hid hxr
        have hbk := Blk.new wr 85 #[.int .i64 aw, .int .i64 ax, .slice AB nb cb, .slice AM nm cm]
        have hR0 := hR.below ((Below.refl _ wr).alloc (Nat.le_refl _) (.cells #[.int .i64 aw, .int .i64 ax, .slice AB nb cb, .slice AM nm cm] 85))
        clear c0 c1' c2 c3 ha haw hax hab ham hnb hnm hal hbM hbB hab3 ham8 hbel hR hwr hxr
        obtain ⟨w8, hw8⟩ : ∃ w8, wr.alloc (.cells #[.int .i64 aw, .int .i64 ax, .slice AB nb cb, .slice AM nm cm] 85) = w8 := ⟨_, rfl⟩
        obtain ⟨g8, hg8⟩ : ∃ g8, wr.heap.size = g8 := ⟨_, rfl⟩
        rw [hw8] at hR0 hbk
        rw [hg8] at hbk
        have k0 : w8.cell? ⟨g8, 0, none⟩ = some (.int .i64 aw) := hbk.cell 0
        have k1 : w8.cell? ⟨g8, 1, none⟩ = some (.int .i64 ax) := hbk.cell 1
        have k2 : w8.cell? ⟨g8, 2, none⟩ = some (.slice AB nb cb) := hbk.cell 2
        have k3 : w8.cell? ⟨g8, 3, none⟩ = some (.slice AM nm cm) := hbk.cell 3
        have HBK := Lib.hid hbk
        obtain ⟨n0, nv, gone, ts, hK, hT, hm0⟩ := hR0
        have HK := Lib.hid hK
        have HT := Lib.hid hT
        have HM0 := Lib.hid hm0
        have hmI : (m : Int) ≤ 100 := by have := hT.len; omega
        clear hbk hK hT hm0
        by_cases a0 : aw = 0
        focus
          subst a0
          have kp := HK.out.keep (by omega) AB cb ab HBB.out HAB3.out
          rw [HNB.out] at kp
          have KP := Lib.hid kp
          clear kp
          go_wp2_with fail
          with_reducible refine KP.out.mono ?_
          rintro e w9 ⟨E, nv', gone', n', rfl, hK9, hF, hKc, hans⟩
          have hT9 : TrC w (j + 1) n0 cur nv' gone (.slice (some ⟨g, 0, none⟩) m ct) ts w9 := ⟨HK.out.tries HT.out.tr hKc hF, HT.out.cur, HT.out.len, HT.out.bd⟩
          have hb9 := HK.out.q HBK.out (by decide) (by decide) hKc
          have HK9 := Lib.hid hK9
          have HT9 := Lib.hid hT9
          have HB9 := Lib.hid hb9
          clear hK9 hT9 hb9 hF hKc KP k0 k1 k2 k3 d0 d1 d2 d3
          rcases hans with ⟨rfl, h1, h2, h3⟩ | ⟨hE, h1, h2, h3⟩ | ⟨rfl, h2⟩
          focus
            have hdw : Below w9.heap.size w9 w9.drew := (Below.refl _ _).drew
            have hs9 := HK9.out.at_.2.2
            obtain ⟨W9, hW9⟩ : ∃ W9, w9.drew = W9 := ⟨_, rfl⟩
            have hK9' := HK9.out.below hdw
            have hT9' := HT9.out.below hdw hs9
            rw [hW9] at hK9' hT9' hdw
            obtain ⟨g', c', A0, m0, e0, hv, hcl, hce, hgl, eA, eB, eC⟩ := TrC.put hK9' hT9' (by omega) (fun _ => ⟨h1, h3⟩) HBB.out HAB3.out
            simp only [Value.slice.injEq, Option.some.injEq, Addr.mk.injEq, and_true] at hv
            obtain ⟨rfl, -, rfl⟩ := hv
            rw [HM0.out] at hcl eA eB eC
            rw [HNB.out] at eA eB eC
            have hb9' := HB9.out.fr (Fr.of_below hdw) (by have := HB9.out.lt; omega)
            have hb9l := hb9'.lt
            have hb9c : W9.cell? ⟨g8, 2, none⟩ = some (.slice AB nb cb) := hb9'.cell 2
            have HX := Lib.hid (show _ ∧ _ ∧ _ ∧ _ ∧ _ ∧ _ ∧ _ ∧ _ ∧ _ from ⟨hW9, hcl, hce, hgl, hb9c, hb9l, eA, eB, eC⟩)
            clear eA eB eC hce hgl hb9l hdw hs9 hb9' hK9' hT9' hW9 hb9c hcl HB9 HK9 HT9
            go_wp2_with fail
            obtain ⟨x1, x2, x3, x4, x5, x6, x7, x8, x9⟩ := HX.out
            with_reducible refine keeps_r28 _ (by kernel_rfl) x1 x2 x3 x4 x5 x6 x7 x8 x9 ?_
            intro _ _ _ _ _ _ _ _ _ _ _ _ _ _ _ wx hkr
            have HR := Lib.hid hkr
            clear hkr x1 x2 x3 x4 x5 x6 x7 x8 x9 HX
            go_upto_region 43 with fail
          rotate_left
          focus
            have HR := Lib.hid (show KpR w (w.heap.size + 1) w.heap.size (j + 1 + 1) r T k cur g m ct w9 from ⟨n', nv', _, ts, HK9.out, HT9.out.same (fun _ => ⟨h1, h3⟩), HM0.out⟩)
            clear HB9 HK9 HT9
            rcases hE with rfl | rfl
            all_goals go_upto_region 43 with fail
          rotate_left 2
          focus
            have hdw : Below w9.heap.size w9 w9.drew := (Below.refl _ _).drew
            have hs9 := HK9.out.at_.2.2
            obtain ⟨W9, hW9⟩ : ∃ W9, w9.drew = W9 := ⟨_, rfl⟩
            have hK9' := HK9.out.below hdw
            have hT9' := HT9.out.below hdw hs9
            rw [hW9] at hK9' hT9' hdw
            obtain ⟨g', c', A0, m0, e0, hv, hcl, hce, hgl, eA, eB, eC⟩ := TrC.put hK9' hT9' (by omega) (fun e => by rw [h2] at e; cases e) HBB.out HAB3.out
            simp only [Value.slice.injEq, Option.some.injEq, Addr.mk.injEq, and_true] at hv
            obtain ⟨rfl, -, rfl⟩ := hv
            rw [HM0.out] at hcl eA eB eC
            rw [HNB.out] at eA eB eC
            have hb9' := HB9.out.fr (Fr.of_below hdw) (by have := HB9.out.lt; omega)
            have hb9l := hb9'.lt
            have hb9c : W9.cell? ⟨g8, 2, none⟩ = some (.slice AB nb cb) := hb9'.cell 2
            have HX := Lib.hid (show _ ∧ _ ∧ _ ∧ _ ∧ _ ∧ _ ∧ _ ∧ _ ∧ _ from ⟨hW9, hcl, hce, hgl, hb9c, hb9l, eA, eB, eC⟩)
            clear eA eB eC hce hgl hb9l hdw hs9 hb9' hK9' hT9' hW9 hb9c hcl HB9 HK9 HT9
            go_wp2_with fail
            obtain ⟨x1, x2, x3, x4, x5, x6, x7, x8, x9⟩ := HX.out
            with_reducible refine keeps_r28 _ (by kernel_rfl) x1 x2 x3 x4 x5 x6 x7 x8 x9 ?_
            intro _ _ _ _ _ _ _ _ _ _ _ _ _ _ _ wx hkr
            have HR := Lib.hid hkr
            clear hkr x1 x2 x3 x4 x5 x6 x7 x8 x9 HX
            go_upto_region 43 with fail
          rotate_left
        rotate_left 4
        by_cases a1 : aw = 1
        focus
          subst a1
          have KP := Lib.hid (HK.out.sync (by omega))
          go_wp2_with fail
          with_reducible refine KP.out.mono ?_
          rintro e w9 ⟨E, gone', k', rfl, hK9, hKc, hans⟩
          have hT9 : TrC w (j + 1) n0 cur nv gone (.slice (some ⟨g, 0, none⟩) m ct) ts w9 := ⟨HK.out.tries HT.out.tr hKc (Foot.refl _ _), HT.out.cur, HT.out.len, HT.out.bd⟩
          have HK9 := Lib.hid hK9
          have HT9 := Lib.hid hT9
          clear hK9 hT9 hKc KP k0 k1 k2 k3 d0 d1 d2 d3
          rcases hans with ⟨rfl, h1, h2, h3⟩ | ⟨rfl, h2, h3⟩
          focus
            subst h1
            obtain ⟨g', c', A0, e0, hv, hcl, hce⟩ := HT9.out.sure
            simp only [Value.slice.injEq, Option.some.injEq, Addr.mk.injEq, and_true] at hv
            obtain ⟨rfl, -, rfl⟩ := hv
            rw [HM0.out] at hcl
            have hclI : (cur : Int) < (m : Int) := by omega
            subst h3
            have HR := Lib.hid (show KpR w (w.heap.size + 1) w.heap.size (j + 1 + 1) r T k' cur g m ct w9 from ⟨k', nv, _, ts, HK9.out, HT9.out.same (fun _ => ⟨rfl, rfl⟩), HM0.out⟩)
            clear HK9 HT9
            go_upto_region 43 with fail
            clear hce
          rotate_left
          focus
            have HR := Lib.hid (show KpR w (w.heap.size + 1) w.heap.size (j + 1 + 1) r T k' cur g m ct w9 from ⟨n0, nv, _, ts, HK9.out, HT9.out.same (fun e => by rw [h2] at e; cases e), HM0.out⟩)
            rw [h3] at HR
            clear HK9 HT9
            go_upto_region 43 with fail
          rotate_left
        rotate_left 2
        by_cases a2 : aw = 2
        focus
          subst a2
          have kp := HK.out.turn (by omega) AB cb ab HBB.out HAB3.out
          rw [HNB.out] at kp
          have KP := Lib.hid kp
          clear kp
          go_wp2_with fail
          with_reducible refine KP.out.mono ?_
          rintro e w9 ⟨E, nv', gone', T', k', n', rfl, hK9, hF, hKc, hans⟩
          have hT9 : TrC w (j + 1) n0 cur nv' gone (.slice (some ⟨g, 0, none⟩) m ct) ts w9 := ⟨HK.out.tries HT.out.tr hKc hF, HT.out.cur, HT.out.len, HT.out.bd⟩
          have hTI : (T : Int) ≤ 90 := by have := HK.out.tle; omega
          have hb9 := HK.out.q HBK.out (by decide) (by decide) hKc
          have k2 : w9.cell? ⟨g8, 2, none⟩ = some (.slice AB nb cb) := hb9.cell 2
          have HK9 := Lib.hid hK9
          have HT9 := Lib.hid hT9
          clear hK9 hT9 hb9 hF hKc KP k0 k1 k3 d0 d1 d2 d3
          rcases hans with ⟨rfl, h2, h3, h4, h5⟩ | ⟨hE, h1, h2, h3, h4, h5⟩ | ⟨rfl, h2, h3, h4⟩
          focus
            have c6 := one_txt w.heap.size w9 (B := AB) (d := cb) (b := ab) (HBB.out.at_ HK9.out.at_.1) (by have := HAB3.out; omega) HBB.out.nil_ HBB.out.old
            rw [HNB.out] at c6
            obtain ⟨c7, b7⟩ := c6
            have hK10 := HK9.out.below b7
            have hT10 := HT9.out.below b7 HK9.out.at_.2.2
            have hnv := HK9.out.nvb
            obtain ⟨v12, w12, hap, hT12, hk12, hK12⟩ := hT10.more hK10 (by omega) ((T : Int) + 1) c7 (fun a ha _ e => by
              cases ha
              obtain ⟨_, cs, hb⟩ := hnv _ e
              exact absurd hb.lt (Nat.lt_irrefl _)) (by simp)
            obtain ⟨g', c', hv⟩ : ∃ g' c', v12 = .slice (some ⟨g', 0, none⟩) (ts ++ [((T : Int) + 1, [ab])]).length c' := by
              obtain ⟨g', c', e, _⟩ := hT12.cells (by simp)
              exact ⟨g', c', e⟩
            subst hv
            have hT13 := hT10.turn hT12 (by simp) (n' := n') (gone' := gone') (by rw [h5]; rfl)
            rw [World.size_alloc, show ([ab] : List (List Int)).length = 1 from rfl] at hap
            rw [show (ts ++ [((T : Int) + 1, [ab])]).length = m + 1 by simp [HM0.out]] at hap hT13
            have HR := Lib.hid (show KpR w (w.heap.size + 1) w.heap.size (j + 1 + 1) r T' k' m g' (m + 1) c' w12 from ⟨n', nv', _, _, hK12, by rw [← HM0.out]; rw [← HM0.out] at hT13; exact hT13, by simp [HM0.out]⟩)
            rw [h3, h4] at HR
            have hm1 : ((m + 1 : Nat) : Int) - 1 = (m : Int) := by omega
            clear c7 b7 hK10 hT10 hnv hT12 hk12 hK12 hT13 HK9 HT9
            go_upto_region 43 with fail
            clear hap k2
            go_wp2_with fail
            go_roundg (n - (j + 1))
            case measure => omega
            case rel => exact ⟨j + 1, r, T + 1, 1, m, g', m + 1, c', by omega, rfl, rfl, rfl, rfl, rfl, by go_num, HR.out⟩
          focus
            have HR := Lib.hid (show KpR w (w.heap.size + 1) w.heap.size (j + 1 + 1) r T' k' cur g m ct w9 from ⟨n', nv', _, ts, HK9.out, HT9.out.same (fun _ => ⟨h1, h5⟩), HM0.out⟩)
            rw [h3, h4] at HR
            clear HK9 HT9 k2
            rcases hE with rfl | rfl
            all_goals go_upto_region 43 with fail
          rotate_left 2
          focus
            have c6 := one_txt w.heap.size w9 (B := AB) (d := cb) (b := ab) (HBB.out.at_ HK9.out.at_.1) (by have := HAB3.out; omega) HBB.out.nil_ HBB.out.old
            rw [HNB.out] at c6
            obtain ⟨c7, b7⟩ := c6
            have hK10 := HK9.out.below b7
            have hT10 := HT9.out.below b7 HK9.out.at_.2.2
            have hnv := HK9.out.nvb
            obtain ⟨v12, w12, hap, hT12, hk12, hK12⟩ := hT10.more hK10 (by omega) ((T : Int) + 1) c7 (fun a ha _ e => by
              cases ha
              obtain ⟨_, cs, hb⟩ := hnv _ e
              exact absurd hb.lt (Nat.lt_irrefl _)) (by simp)
            obtain ⟨g', c', hv⟩ : ∃ g' c', v12 = .slice (some ⟨g', 0, none⟩) (ts ++ [((T : Int) + 1, [ab])]).length c' := by
              obtain ⟨g', c', e, _⟩ := hT12.cells (by simp)
              exact ⟨g', c', e⟩
            subst hv
            have hT13 := hT10.stay hT12 (by simp) (n' := n') (gone' := gone') (fun e => by rw [h2] at e; cases e)
            rw [World.size_alloc, show ([ab] : List (List Int)).length = 1 from rfl] at hap
            rw [show (ts ++ [((T : Int) + 1, [ab])]).length = m + 1 by simp [HM0.out]] at hap hT13
            have HR := Lib.hid (show KpR w (w.heap.size + 1) w.heap.size (j + 1 + 1) r T' k' cur g' (m + 1) c' w12 from ⟨n', nv', _, _, hK12, hT13, by simp [HM0.out]⟩)
            rw [h3, h4] at HR
            clear c7 b7 hK10 hT10 hnv hT12 hk12 hK12 hT13 HK9 HT9
            go_upto_region 43 with fail
            clear hap k2
          rotate_left
        rotate_left 3
        by_cases a3 : aw = 3
        focus
          subst a3
          have pk := pick_any ax 20 w8 (by omega) HAX.out (by omega)
          rw [show ((20 : Nat) : Int) = 20 from rfl] at pk
          have h20 : 0 ≤ ax % 20 ∧ ax % 20 < 20 := ⟨by omega, by omega⟩
          obtain ⟨F, hF⟩ : ∃ F, ax % 20 = F := ⟨_, rfl⟩
          rw [hF] at pk h20
          obtain ⟨h21, h22⟩ := h20
          have KP := Lib.hid (HK.out.fuse (1 + F) (by omega) (by omega))
          clear hF
          go_wp2_with fail
          with_reducible refine pk.mono ?_
          rintro e w' ⟨rfl, hw⟩
          rw [← hw]
          clear hw pk
          go_wp2_with fail
          with_reducible refine KP.out.mono ?_
          rintro e w9 ⟨rfl, hK9, hKc⟩
          have hT9 : TrC w (j + 1) n0 cur nv gone (.slice (some ⟨g, 0, none⟩) m ct) ts w9 := ⟨HK.out.tries HT.out.tr hKc (Foot.refl _ _), HT.out.cur, HT.out.len, HT.out.bd⟩
          have HR := Lib.hid (show KpR w (w.heap.size + 1) w.heap.size (j + 1 + 1) r T k cur g m ct w9 from ⟨n0, nv, _, ts, hK9, hT9.same (fun e => ⟨e, rfl⟩), HM0.out⟩)
          clear hK9 hT9 hKc KP k0 k1 k2 k3 d0 d1 d2 d3
          go_upto_region 43 with fail
        rotate_left
        focus
          have st := HK.out.start (by omega) AM cm am HBM.out (by have := HAM8.out; unfold maxLen; omega)
          rw [HNM.out] at st
          have ST := Lib.hid st
          have hTle := HK.out.tle
          clear st
          go_wp2_with fail
          with_reducible refine ST.out.mono ?_
          rintro e w9 ⟨rfl, hD9, hKc⟩
          have HT9 := Lib.hid (HK.out.tries HT.out.tr hKc (Foot.refl _ _))
          have BY := Lib.hid hD9.bytes
          have HS9 := Lib.hid hD9.at_.2.2
          clear hD9 hKc ST k0 k1 k2 k3 d0 d1 d2 d3
          go_wp2_with fail
          with_reducible refine BY.out.mono ?_
          rintro e w10 ⟨v10, all, rfl, ho10, hal, hab, hb10, S, mx, hat, hg, hw0, hS24, hmx, hbest⟩
          obtain ⟨A10, c10, rfl⟩ := ho10.form
          have HT10 := Lib.hid (HT9.out.below hb10 HS9.out)
          obtain ⟨A5', c5', e5, y5, _, k5⟩ := ho10.byt hab
          rw [hal] at e5 k5
          simp only [Value.slice.injEq, true_and] at e5
          obtain ⟨rfl, rfl⟩ := e5
          have hfd := rfind_any w.heap.size A10 c10 all w10 y5 (by rw [hal]; exact k5) (by rw [hal]; omega) (fun a ha => by
            obtain ⟨cs, hc, _⟩ := own_blk ho10 (g := a.block) (by rw [ha]; rfl)
            exact .inr ⟨cs, hc⟩) hat.size
          obtain ⟨Rb, hRb⟩ : ∃ R, bestP all 2 = R := ⟨_, rfl⟩
          obtain ⟨T1, L1⟩ := Rb
          obtain ⟨p1, p2, p3, p4, p5, sd1, p6⟩ := hbest T1 L1 hRb
          rw [hRb, hal, show (1536 / 64 / 2 : Nat) = 12 from rfl] at hfd
          simp only at hfd
          rw [hal]
          have HFD := Lib.hid hfd
          have HAT := Lib.hid hat
          have HSG := Lib.hid hg
          have HSW := Lib.hid hw0
          have HSL := Lib.hid hS24
          have HP := Lib.hid (show _ ∧ _ ∧ _ from ⟨p4, p5, p6⟩)
          have HP3 := Lib.hid p3
          clear hfd hRb y5 hat hg hw0 hS24 hbest p3 p4 p5 p6 ho10 hab hal hb10 BY HT9 HS9 k5
          go_wp2_with fail
          with_reducible refine HFD.out.mono ?_
          rintro e w11 ⟨⟨A6, c6, rfl, hC6⟩, b6⟩
          rw [show ((12 : Nat) : Int) = 12 from rfl]
          have hb7 := Blk.new w11 75 (chL 0 0 (.slice none 0 0)).toArray
          have b7 : Below w11.heap.size w11 (w11.alloc (.cells (chL 0 0 (.slice none 0 0)).toArray 75)) := (Below.refl _ _).alloc (Nat.le_refl _) _
          have st7 := st75_blk hb7 rfl (T1 : Int) 12 A6 L1.length c6
          obtain ⟨g5, hg5⟩ : ∃ g, w11.heap.size = g := ⟨_, rfl⟩
          have hs10 : w.heap.size ≤ w10.heap.size := HAT.out.size
          have hs11 : w.heap.size ≤ w11.heap.size := Nat.le_trans hs10 b6.size
          have bl7 := hb7.row_ (chL T1 12 (.slice A6 L1.length c6)).toArray
          have hk7 : Kept w.heap.size [75] w10 ((w11.alloc (.cells (chL 0 0 (.slice none 0 0)).toArray 75)).setRow w11.heap.size (chL T1 12 (.slice A6 L1.length c6)).toArray) :=
            (Kept.of_below (b6.trans (b7.mono b6.size)) hs10).trans (Kept.of_fr ((Fr.refl (fun k => k = w11.heap.size) _).setRow (fun _ => rfl) _) (by simp; omega) (fun k hk e => by omega) (fun k t cs' e hb => by
              subst e
              rw [(hb.inj hb7).1]
              simp))
          have at7 := HAT.out.kept hk7 (by obtain ⟨wv, hd⟩ := HAT.out.drum; exact ⟨wv, hk7.drum hd (by decide) (by decide) (by decide)⟩)
          have tr7 := HT10.out.kept hk7 (by decide) (by decide) (by decide)
          have hC7 := (hC6.below b7 hs11).setRow hb7 hs11 (chL T1 12 (.slice A6 L1.length c6)).toArray
          obtain ⟨w12, hw12⟩ : ∃ w12, (w11.alloc (.cells (chL 0 0 (.slice none 0 0)).toArray 75)).setRow w11.heap.size (chL T1 12 (.slice A6 L1.length c6)).toArray = w12 := ⟨_, rfl⟩
          rw [hw12] at st7 bl7 at7 tr7 hC7
          rw [hg5] at st7 bl7 hs11
          have ko := kopen_new at7 HSG.out HSL.out HSW.out hmx (by omega) HP.out.1 HP.out.2.1 HP.out.2.2 bl7 hC7 (fun l hl => (hC7.bd l hl).2)
          have KO := Lib.hid ko
          have TR7 := Lib.hid tr7
          clear hb7 b7 b6 bl7 hk7 at7 tr7 hC7 hC6 HFD HAT HT10 hw12 hs10 ko
          go_wp2_with fail
          with_reducible refine KO.out.mono ?_
          rintro e w13 ⟨r', nv', rfl, hK13, bl13, hC13, hne13, hv13, hkk13, hl13, hIs⟩
          have hT13 : TrC w (j + 1) n0 cur nv' gone (.slice (some ⟨g, 0, none⟩) m ct) ts w13 := ⟨(TR7.out.toNv hv13).kept hkk13 (by decide) (by decide) (by decide), HT.out.cur, HT.out.len, HT.out.bd⟩
          obtain ⟨q0, _, q2⟩ := ch_parts bl13
          have hld := ld75_blk bl13
          have hkn := known_any w13 hT13.tr (by have := HT.out.len; omega) (fun x hx => by have := HT.out.bd x hx; omega) T1 12 A6 c6 L1 hC13 (by omega) hK13.at_.2.2
          obtain ⟨n1, hn1⟩ : ∃ n1, L1.length = n1 := ⟨_, rfl⟩
          have hP3 := HP3.out
          rw [hn1] at q2 hld hkn hP3 hl13
          have t1 : ¬ T1 < T := by omega
          have HKN := Lib.hid hkn
          have HN1 := Lib.hid hn1
          have HK13 := Lib.hid hK13
          have HT13 := Lib.hid hT13
          have BL13 := Lib.hid bl13
          have HC13 := Lib.hid hC13
          have HNE := Lib.hid hne13
          have HIS := Lib.hid hIs
          obtain ⟨l1, l2⟩ := hl13
          have HLD := Lib.hid hld
          clear hkn hn1 hK13 hT13 bl13 hC13 hne13 hv13 hkk13 hIs KO TR7 st7 hs11 HP HP3
          by_cases hTT : T1 = T
          focus
            subst hTT
            have e1 : (((T1 : Int)) == (T1 : Int)) = true := by simp
            have t2 : ¬ n1 < k := by have := hP3 rfl; omega
            clear hP3
            go_upto_region 19 with fail
            clear t1 t2 e1
          rotate_left
          focus
            have e1 : ((T1 : Int) == (T : Int)) = false := by
              rw [beq_eq_false_iff_ne]
              omega
            clear hP3
            go_upto_region 19 with fail
            clear t1 e1 hTT
          all_goals
            have hld := HLD.out
            go_wp2_with fail
            with_reducible refine HKN.out.mono ?_
            rintro e w14 ⟨⟨Rk, rfl⟩, b14⟩
            have hK14 := HK13.out.below b14
            have hT14 := HT13.out.below b14 HK13.out.at_.2.2
            have hC14 := HC13.out.below b14 HK13.out.at_.2.2
            have bl14 := BL13.out.fr (Fr.of_below b14) (by have := BL13.out.lt; omega)
            have hIs := HIS.out _ b14
            rw [HN1.out] at hIs
            clear hld
            cases Rk with
            | false =>
              have aw := awake14 w14 hK14.at_.2.1
              have HB := Lib.hid hK14.at_.1
              clear hK14 hT14 hC14 bl14 hIs b14 HKN HT HK HBK HK13 HT13 BL13 HC13 HNE HIS HLD q0 q2
              go_wp2_with fail
              with_reducible refine aw.mono ?_
              rintro e w2 ⟨rfl, c2⟩
              have C2 := Lib.hid (HB.out.trans (c2.mono HB.out.size))
              clear c2 aw
              go_wp2_with fail
              go_ret
              exact ⟨rfl, C2.out⟩
            | true =>
              have hld := ld75_blk bl14
              rw [HN1.out] at hld
              have HIs := Lib.hid hIs
              have HK14 := Lib.hid hK14
              have HT14 := Lib.hid hT14
              have HC14 := Lib.hid hC14
              have BL14 := Lib.hid bl14
              clear hK14 hT14 hC14 bl14 hIs b14 HKN HK13 HT13 BL13 HC13 HIS HLD q0 q2
              go_wp2_with fail
              with_reducible refine HIs.out.mono ?_
              rintro e w15 ⟨rfl, b15⟩
              have hK15 := HK14.out.below b15
              have hT15 := HT14.out.below b15 HK14.out.at_.2.2
              have hC15 := HC14.out.below b15 HK14.out.at_.2.2
              have bl15 := BL14.out.fr (Fr.of_below b15) (by have := BL14.out.lt; omega)
              obtain ⟨q0, _, q2⟩ := ch_parts bl15
              obtain ⟨v16, w16, hap, hT16, hk16, hK16⟩ := hT15.more hK15 (by omega) (T1 : Int) hC15 HNE.out (by rw [HN1.out]; exact ⟨l1, l2⟩)
              obtain ⟨g', c', hv⟩ : ∃ g' c', v16 = .slice (some ⟨g', 0, none⟩) (ts ++ [((T1 : Int), L1)]).length c' := by
                obtain ⟨g', c', e, _⟩ := hT16.cells (by simp)
                exact ⟨g', c', e⟩
              subst hv
              have hT17 := hT15.turn hT16 (by rw [HN1.out]; exact ⟨l1, l2⟩) (n' := L1.length) (gone' := false) rfl
              rw [show (ts ++ [((T1 : Int), L1)]).length = m + 1 by simp [HM0.out]] at hap hT17
              have hR := show KpR w (w.heap.size + 1) w.heap.size (j + 1 + 1) r' T1 L1.length m g' (m + 1) c' w16 from ⟨_, nv', _, _, hK16, by rw [← HM0.out]; rw [← HM0.out] at hT17; exact hT17, by simp [HM0.out]⟩
              have bl16 := hk16.kt _ _ _ bl15 (by decide)
              rw [HN1.out] at hap q2 hR
              rw [HN1.out] at bl16
              obtain ⟨z0, _, z2⟩ := ch_parts bl16
              have hm1 : ((m + 1 : Nat) : Int) - 1 = (m : Int) := by omega
              have hRR := Lib.hid (fun q => hR.below (below_drewN (Below.refl _ _) q))
              clear hK15 hT15 hC15 bl15 hT16 hk16 hK16 hT17 bl16 hR hld HIs HK14 HT14 HC14 BL14 HNE b15
              go_wp2_with fail
              go_quiet (fail)
              all_goals
                clear hap z0 z2
                go_wp2_with fail
                go_roundg (n - (j + 1))
                case measure => omega
                case rel => exact ⟨j + 1, _, _, _, _, _, _, _, by omega, rfl, rfl, rfl, rfl, rfl, by go_num, hRR.out _⟩
        all_goals
          clear HT HK HBK
          go_wp2_with fail
          go_roundg (n - (j + 1))
          case measure => omega
          case rel => exact ⟨j + 1, _, _, _, _, _, _, _, by omega, rfl, rfl, rfl, rfl, rfl, by go_num, HR.out⟩
      · obtain rfl : j = n := by omega
        have hltI : ¬ (j : Int) < (j : Int) := by omega
        have aw := awake14 wr hR.at_.2.1
        have HB := Lib.hid hR.at_.1
        clear hR
        go_wp2_with fail
        with_reducible refine aw.mono ?_
        rintro e w2 ⟨rfl, c2⟩
        have C2 := Lib.hid (HB.out.trans (c2.mono HB.out.size))
        clear c2 aw
        go_wp2_with fail
        go_ret
        exact ⟨rfl, C2.out⟩
end
end Go.Proofs.YtohadeijmmmcdaaDoor
