/-
  SettleTells: the walk.
-/
import Derived.Test.YtmflhidmhefljaaGreatDoorJSTelA
import Derived.Test.YtmflhidmhefljaaGreatDoorJOpenT

namespace Go.Proofs.YtmflhidmhefljaaGreatDoor
open Go.RowKit Go.Shelf
set_option maxRecDepth 100000
attribute [local go_sem ↓] ldTx_of

set_option maxHeartbeats 8000000 in
theorem settletells_law (As : Option Addr) (cs : Nat) (seed : List Int) (n : Int) (A1 : Option Addr) (c1 : Nat) (A2 : Option Addr) (c2 : Nat) (t : TxD) (A : Option Addr) (c : Nat) (l : List CertD) (s : Int) (w : World) (hsd : BytN w As cs seed) (hsm : seed.length ≤ maxLen) (hn : 0 ≤ n ∧ n ≤ 255) (h : TxAt w A1 A2 t) (_m1 : t.ins.length ≤ maxLen) (_m2 : t.outs.length ≤ maxLen) (hC : CertsAt w A l) (hlm : l.length ≤ maxLen) (_hs : -9223372036854775808 ≤ s ∧ s ≤ 9223372036854775807) (hg : Glob w) :
    Calls Tryz.prog 3 #[.slice As seed.length cs, .int .u8 n, .agg (txV A1 c1 A2 c2 t), .slice A l.length c, .int .i64 s] w fun e w' => e = .returned (.bool true) ∧ Below w.heap.size w w' := by
  have hbt := hsd.byt
  have b0 := Blk.new w 27 (txV A1 c1 A2 c2 t)
  have B0 : Below w.heap.size w (w.alloc (.cells (txV A1 c1 A2 c2 t) 27)) := (Below.refl _ w).alloc (Nat.le_refl _) _
  obtain ⟨W, hW⟩ : ∃ W, w.alloc (.cells (txV A1 c1 A2 c2 t) 27) = W := ⟨_, rfl⟩
  rw [hW] at b0 B0
  obtain ⟨g, hgg⟩ : ∃ g, w.heap.size = g := ⟨_, rfl⟩
  rw [hgg] at b0
  have hld := fun X (hX : Below W.heap.size W X) => LDs_all (P := Tryz.prog) uTx iTx (w := X) (txV A1 c1 A2 c2 t).toList (by simpa using b0.fr (Fr.of_below hX) (by have := b0.lt; omega)) rfl
  have hld0 := hld W (Below.refl _ _)
  have hTW := h.below B0
  have hgW := hg.below B0
  have hCW := hC.below B0
  have hbW := hbt.below B0
  have hgr := great23_any A1 c1 A2 c2 t A c l W hTW hCW hlm
  have haw := fun X (hX : Below W.heap.size W X) => awakeZ X (hgW.below hX)
  have hks := fun k h1 h2 (hs : seed.length ≤ 64) X (hX : Below W.heap.size W X) => keys_any As cs seed k X h1 h2 hs (hbW.below hX) (hgW.below hX)
  have hsA := fun p k X (hr : RingAt X p seed k) h1 h2 (hX : Below W.heap.size W X) q1 q2 q3 q4 => setall_any p k seed A1 c1 A2 c2 t A c l X hr h1 h2 (hTW.below hX) (hgW.below hX) q1 q2 (hCW.below hX) q3 q4
  have hsO := fun p k X (hr : RingAt X p seed k) h1 h2 (hX : Below W.heap.size W X) q1 q2 q3 => setone_any p k seed A1 c1 A2 c2 t A c l X hr h1 h2 (hTW.below hX) (hgW.below hX) q1 q2 (hCW.below hX) q3
  have hsS := fun (k : Nat) hk X (hX : Below W.heap.size W X) q1 q2 => setsum_any A1 c1 A2 c2 t (k : Int) s hk X (hTW.below hX) (hgW.below hX) q1 q2
  have hrA := fun (k : Nat) hk hs X (hX : Below W.heap.size W X) q => rsetall_any As cs seed hs A1 c1 A2 c2 t (k : Int) hk A c l X (hbW.below hX) (hTW.below hX) (hCW.below hX) q
  have hrO := fun (k : Nat) hk hs X (hX : Below W.heap.size W X) => rsetone_any As cs seed hs A1 c1 A2 c2 t (k : Int) hk A c l X (hbW.below hX) (hTW.below hX) (hCW.below hX)
  have hrS := fun (k : Nat) hk X (hX : Below W.heap.size W X) => rsum_at A1 c1 A2 c2 t (k : Int) s hk X (hTW.below hX)
  have hgl := @greatP_not t
  obtain ⟨xs, hxs⟩ : ∃ xs, txV A1 c1 A2 c2 t = xs := ⟨_, rfl⟩
  simp only [hxs] at hld hld0 hsA hsO hsS hrA hrO hrS
  rw [hxs] at hgr hW ⊢
  obtain ⟨ls, hls⟩ : ∃ n, seed.length = n := ⟨_, rfl⟩
  obtain ⟨ll, hll⟩ : ∃ n, l.length = n := ⟨_, rfl⟩
  simp only [hls, hll] at hsm hlm hgr hks hsA hsO hrA hrO ⊢
  obtain ⟨hn1, hn2⟩ := hn
  have hsmx : ls ≤ 9223372036854775807 := Nat.le_trans hsm (by decide)
  have HW := Lib.hid hW
  have HG := Lib.hid hgg
  have HB := Lib.hid B0
  have HAW := Lib.hid haw
  have HLD := Lib.hid hld
  have HKS := Lib.hid hks
  have HSA := Lib.hid hsA
  have HSO := Lib.hid hsO
  have HSS := Lib.hid hsS
  have HRA := Lib.hid hrA
  have HRO := Lib.hid hrO
  have HRS := Lib.hid hrS
  have HLL := Lib.hid hll
  have HLS := Lib.hid hls
  have HGL := Lib.hid hgl
  clear hW hgg B0 haw hld hks hsA hsO hsS hrA hrO hrS hll hls hgl h hg hC hbt hsd b0 hTW hgW hCW hbW hxs hsm hlm
  go_enter Tryz.func3, Tryz.ntmps3
  go_upto_region 1 with fail
  rw [HW.out, HG.out]
  by_cases h60 : 60 < ls
  · have h60I : (60 : Int) < (ls : Int) := by omega
    go_wp2_with fail
    with_reducible refine hgr.mono ?_
    rintro e w1 ⟨hE, hB1⟩
    have haw1 := HAW.out w1 hB1
    rcases hE with rfl | ⟨rfl, _⟩
    · have HB1 := Lib.hid hB1
      clear hB1 hgr hld0
      go_wp2_with fail
      with_reducible refine haw1.mono ?_
      rintro e w2 ⟨rfl, hB2⟩
      have HB2 := Lib.hid (HB1.out.trans (hB2.mono HB1.out.size))
      clear hB2 haw1
      go_wp2_with fail
      go_ret
      exact ⟨rfl, HB.out.trans (HB2.out.mono HB.out.size)⟩
    · have HB1 := Lib.hid hB1
      clear hB1 hgr hld0
      go_wp2_with fail
      with_reducible refine haw1.mono ?_
      rintro e w2 ⟨rfl, hB2⟩
      have HB2 := Lib.hid (HB1.out.trans (hB2.mono HB1.out.size))
      clear hB2 haw1
      go_wp2_with fail
      go_ret
      exact ⟨rfl, HB.out.trans (HB2.out.mono HB.out.size)⟩
  · have h60I : ¬ (60 : Int) < (ls : Int) := by omega
    go_wp2_with fail
    with_reducible refine hgr.mono ?_
    rintro e w1 ⟨hE, hB1⟩
    have haw1 := HAW.out w1 hB1
    rcases hE with rfl | ⟨rfl, hl20, hp40, hng⟩
    · have HB1 := Lib.hid hB1
      clear hB1 hgr hld0
      go_wp2_with fail
      with_reducible refine haw1.mono ?_
      rintro e w2 ⟨rfl, hB2⟩
      have HB2 := Lib.hid (HB1.out.trans (hB2.mono HB1.out.size))
      clear hB2 haw1
      go_wp2_with fail
      go_ret
      exact ⟨rfl, HB.out.trans (HB2.out.mono HB.out.size)⟩
    · obtain ⟨hl1, hl2⟩ := HGL.out hng
      obtain ⟨k, hk⟩ : ∃ k : Nat, 1 + n % 64 = (k : Int) := ⟨(1 + n % 64).toNat, by omega⟩
      have hk1 : 1 ≤ k := by omega
      have hk2 : k ≤ 64 := by omega
      have hkeys := HKS.out k hk1 hk2 (by have := HLS.out; omega) w1 hB1
      have q1 : t.ins.length ≤ 1000000 := by omega
      have q2 : t.outs.length ≤ 1000000 := by omega
      have q3 : ∀ c ∈ l, c.path.length ≤ 1000000 := fun c hc => by have := hp40 c hc; omega
      have q4 : ll ≤ 1000000 := by have := HLL.out; omega
      have hkI : -9223372036854775808 ≤ (k : Int) ∧ (k : Int) ≤ 9223372036854775807 := by omega
      have hs64 : ls ≤ 64 := by omega
      have HB1 := Lib.hid hB1
      have HK := Lib.hid hk
      have Q1 := Lib.hid q1
      have Q2 := Lib.hid q2
      have Q3 := Lib.hid q3
      have Q4 := Lib.hid q4
      have HS64 := Lib.hid hs64
      clear hB1 hk q1 q2 q3 q4 hs64 hgr hld0 haw1 hp40 hl20 hng hl1 hl2
      go_upto_region 4 with fail
      rw [HK.out]
      go_wp2_with fail
      with_reducible refine hkeys.mono ?_
      rintro e w2 ⟨p, rfl, hring, _, hB2⟩
      have hB2W := HB1.out.trans (hB2.mono HB1.out.size)
      have fA := fun X (hX : Below w2.heap.size w2 X) => HSA.out p k X (hring.below hX) hk1 hk2 (hB2W.trans (hX.mono hB2W.size)) Q1.out Q2.out Q3.out Q4.out
      have fO := fun X (hX : Below w2.heap.size w2 X) => HSO.out p k X (hring.below hX) hk1 hk2 (hB2W.trans (hX.mono hB2W.size)) Q1.out Q2.out Q3.out
      have fS := fun X (hX : Below w2.heap.size w2 X) => HSS.out k hkI X (hB2W.trans (hX.mono hB2W.size)) Q1.out Q2.out
      have fRA := fun X (hX : Below w2.heap.size w2 X) => HRA.out k hkI HS64.out X (hB2W.trans (hX.mono hB2W.size)) Q4.out
      have fRO := fun X (hX : Below w2.heap.size w2 X) => HRO.out k hkI HS64.out X (hB2W.trans (hX.mono hB2W.size))
      have fRS := fun X (hX : Below w2.heap.size w2 X) => HRS.out k hkI X (hB2W.trans (hX.mono hB2W.size))
      have fAw := fun X (hX : Below w2.heap.size w2 X) => HAW.out X (hB2W.trans (hX.mono hB2W.size))
      have fL := fun X (hX : Below w2.heap.size w2 X) => HLD.out X (hB2W.trans (hX.mono hB2W.size))
      obtain ⟨a, ha⟩ : ∃ a, accP' seed t (k : Int) l = a := ⟨_, rfl⟩
      obtain ⟨b, hb⟩ : ∃ a, rejP seed t (k : Int) l = a := ⟨_, rfl⟩
      obtain ⟨d, hd⟩ : ∃ a, sumAtP t (k : Int) s = a := ⟨_, rfl⟩
      simp only [ha, hb, hd] at fA fO fS fRA fRO fRS
      obtain ⟨S0, hS0⟩ : ∃ S0 : World → Prop, (fun X => (LDs 27 (.pointer (some ⟨g, 0, none⟩))).run Tryz.prog X = .ok (.agg xs) X) = S0 := ⟨_, rfl⟩
      have hSS : ∀ X, Below w2.heap.size w2 X → S0 X := fun X hX => by rw [← hS0]; exact fL X hX
      have e0 := fA _ (Below.refl _ w2).drew
      have hba : (a == a) = true := by simp
      have hbb : (b == b) = true := by simp
      have hbd : (d == d) = true := by simp
      have HB2 := Lib.hid hB2W
      have S0E := Lib.hid hS0
      have SS := Lib.hid hSS
      have FA := Lib.hid fA
      have FO := Lib.hid fO
      have FS := Lib.hid fS
      have FRA := Lib.hid fRA
      have FRO := Lib.hid fRO
      have FRS := Lib.hid fRS
      have FAW := Lib.hid fAw
      clear hB2W hS0 hSS fA fO fS fRA fRO fRS fAw hB2 hkeys hring ha hb hd fL
      go_upto_region 7 with fail
      refine wp_txO [(0, 3), (2, 3), (3, 3), (5, 3), (7, 3), (8, 3), (1, 0), (6, 0), (4, 1), (9, 1), (10, 3), (11, 3), (12, 3), (14, 3), (15, 3), (17, 3), (19, 3), (20, 3), (13, 0), (18, 0), (16, 1), (21, 1), (22, 3), (23, 3), (24, 3), (26, 3), (27, 3), (30, 3), (31, 3), (25, 0), (29, 0), (28, 1), (32, 2), (33, 3), (34, 3), (35, 3), (36, 2), (37, 3), (38, 3)] S0 (by kernel_rfl) (by kernel_rfl) (by kernel_rfl) (by kernel_rfl) (SS.out _ (Below.refl _ _).drew) ?_
      iterate 6 (with_reducible refine wpTxO_evN (o := ?_) (v := ?_) (a' := ?_) (by with_unfolding_all rfl) (by with_unfolding_all rfl) (fun W' => ?_) ?_ ?_; rotate_left 2; (focus (go_simp <;> with_reducible rfl)); focus (go_simp <;> with_reducible rfl))
      iterate 2 (with_reducible refine wpTxO_takeN (o := ?_) (v := ?_) (a' := ?_) (by with_unfolding_all rfl) (by with_unfolding_all rfl) (fun W' hS => ?_) ?_ ?_; rotate_left 2; (focus (rw [← S0E.out] at hS; go_simp <;> with_reducible rfl)); focus (go_simp <;> with_reducible rfl))
      with_reducible refine wpTxO_want (o := ?_) (by with_unfolding_all rfl) (by with_unfolding_all rfl) (fun K hK => ?_)
      try simp only [List.getElem_toArray, List.getElem_cons_succ, List.getElem_cons_zero]
      go_simp
      with_reducible refine e0.mono ?_
      rintro e w4 ⟨rfl, hB4⟩
      have hB4Y : Below w2.heap.size w2 w4 := (Below.refl _ w2).drew.trans hB4
      have e1 := FRA.out w4 hB4Y
      have BX := Lib.hid hB4Y
      clear hB4Y hB4 e0
      with_reducible refine hK _ _ (SS.out _ BX.out) ?_
      clear hK K
      with_reducible refine wpTxO_want (o := ?_) (by with_unfolding_all rfl) (by with_unfolding_all rfl) (fun K hK => ?_)
      try simp only [List.getElem_toArray, List.getElem_cons_succ, List.getElem_cons_zero]
      go_simp
      with_reducible refine e1.mono ?_
      rintro e w9 ⟨rfl, hB9⟩
      have e2 := FO.out w9 (BX.out.trans (hB9.mono BX.out.size))
      have BY := Lib.hid (BX.out.trans (hB9.mono BX.out.size))
      clear hB9 e1 BX
      with_reducible refine hK _ _ (SS.out _ BY.out) ?_
      clear hK K
      iterate 8 (with_reducible refine wpTxO_evN (o := ?_) (v := ?_) (a' := ?_) (by with_unfolding_all rfl) (by with_unfolding_all rfl) (fun W' => ?_) ?_ ?_; rotate_left 2; (focus (go_simp <;> with_reducible rfl)); focus (go_simp <;> with_reducible rfl))
      iterate 2 (with_reducible refine wpTxO_takeN (o := ?_) (v := ?_) (a' := ?_) (by with_unfolding_all rfl) (by with_unfolding_all rfl) (fun W' hS => ?_) ?_ ?_; rotate_left 2; (focus (rw [← S0E.out] at hS; go_simp <;> with_reducible rfl)); focus (go_simp <;> with_reducible rfl))
      with_reducible refine wpTxO_want (o := ?_) (by with_unfolding_all rfl) (by with_unfolding_all rfl) (fun K hK => ?_)
      try simp only [List.getElem_toArray, List.getElem_cons_succ, List.getElem_cons_zero]
      go_simp
      with_reducible refine e2.mono ?_
      rintro e w16 ⟨rfl, hB16⟩
      have e3 := FRO.out w16 (BY.out.trans (hB16.mono BY.out.size))
      have BX := Lib.hid (BY.out.trans (hB16.mono BY.out.size))
      clear hB16 e2 BY
      with_reducible refine hK _ _ (SS.out _ BX.out) ?_
      clear hK K
      with_reducible refine wpTxO_want (o := ?_) (by with_unfolding_all rfl) (by with_unfolding_all rfl) (fun K hK => ?_)
      try simp only [List.getElem_toArray, List.getElem_cons_succ, List.getElem_cons_zero]
      go_simp
      with_reducible refine e3.mono ?_
      rintro e w21 ⟨rfl, hB21⟩
      have e4 := FS.out w21 (BX.out.trans (hB21.mono BX.out.size))
      have BY := Lib.hid (BX.out.trans (hB21.mono BX.out.size))
      clear hB21 e3 BX
      with_reducible refine hK _ _ (SS.out _ BY.out) ?_
      clear hK K
      iterate 7 (with_reducible refine wpTxO_evN (o := ?_) (v := ?_) (a' := ?_) (by with_unfolding_all rfl) (by with_unfolding_all rfl) (fun W' => ?_) ?_ ?_; rotate_left 2; (focus (go_simp <;> with_reducible rfl)); focus (go_simp <;> with_reducible rfl))
      iterate 2 (with_reducible refine wpTxO_takeN (o := ?_) (v := ?_) (a' := ?_) (by with_unfolding_all rfl) (by with_unfolding_all rfl) (fun W' hS => ?_) ?_ ?_; rotate_left 2; (focus (rw [← S0E.out] at hS; go_simp <;> with_reducible rfl)); focus (go_simp <;> with_reducible rfl))
      with_reducible refine wpTxO_want (o := ?_) (by with_unfolding_all rfl) (by with_unfolding_all rfl) (fun K hK => ?_)
      try simp only [List.getElem_toArray, List.getElem_cons_succ, List.getElem_cons_zero]
      go_simp
      with_reducible refine e4.mono ?_
      rintro e w28 ⟨rfl, hB28⟩
      have e5 := FRS.out w28 (BY.out.trans (hB28.mono BY.out.size))
      have BX := Lib.hid (BY.out.trans (hB28.mono BY.out.size))
      clear hB28 e4 BY
      with_reducible refine hK _ _ (SS.out _ BX.out) ?_
      clear hK K
      with_reducible refine wpTxO_last (o := ?_) (by with_unfolding_all rfl) (by with_unfolding_all rfl) (fun K hK => ?_)
      try simp only [List.getElem_toArray, List.getElem_cons_succ, List.getElem_cons_zero]
      go_simp
      with_reducible refine e5.mono ?_
      rintro e w32 ⟨rfl, hB32⟩
      have e6 := FAW.out w32 (BX.out.trans (hB32.mono BX.out.size))
      have BY := Lib.hid (BX.out.trans (hB32.mono BX.out.size))
      clear hB32 e5 BX
      with_reducible refine hK _ _ ?_
      clear hK K
      iterate 3 (with_reducible refine wpTxO_evN (o := ?_) (v := ?_) (a' := ?_) (by with_unfolding_all rfl) (by with_unfolding_all rfl) (fun W' => ?_) ?_ ?_; rotate_left 2; (focus (go_simp <;> with_reducible rfl)); focus (go_simp <;> with_reducible rfl))
      with_reducible refine wpTxO_last (o := ?_) (by with_unfolding_all rfl) (by with_unfolding_all rfl) (fun K hK => ?_)
      try simp only [List.getElem_toArray, List.getElem_cons_succ, List.getElem_cons_zero]
      go_simp
      with_reducible refine e6.mono ?_
      rintro e w36 ⟨rfl, hB36⟩
      have BX := Lib.hid (BY.out.trans (hB36.mono BY.out.size))
      clear hB36 e6 BY
      with_reducible refine hK _ _ ?_
      clear hK K
      iterate 2 (with_reducible refine wpTxO_evN (o := ?_) (v := ?_) (a' := ?_) (by with_unfolding_all rfl) (by with_unfolding_all rfl) (fun W' => ?_) ?_ ?_; rotate_left 2; (focus (go_simp <;> with_reducible rfl)); focus (go_simp <;> with_reducible rfl))
      with_reducible refine wpTxO_nil ?_
      rw [noPan_normal]
      go_wp2_with fail
      go_ret
      exact ⟨rfl, HB.out.trans ((HB2.out.trans (BX.out.mono HB2.out.size)).mono HB.out.size)⟩
end Go.Proofs.YtmflhidmhefljaaGreatDoor
