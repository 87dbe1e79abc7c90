/-
  field.Pen: a number written.
  field.Pen: a text; all fields.
  scroll.Form.
-/
import Derived.Test.YtdkanehjahpehaaGreatDoorJChunk
import Derived.Test.YtdkanehjahpehaaGreatDoorJScrB
import Derived.Test.YtdkanehjahpehaaGreatDoorJCat
import Derived.Test.YtdkanehjahpehaaGreatDoorJSum

section
namespace Go.Proofs.YtdkanehjahpehaaGreatDoor
open Go.RowKit Go.Shelf
set_option maxRecDepth 100000
attribute [local go_sem] Oper.semAt_some
theorem ap22_of (xs : Array Value) (t : TypeId) : Builtin.append_ #[28, 28] t xs = APs #[28, 28] t xs := rfl
attribute [local go_sem ↓] ap22_of

/-- A pen that has written l. -/
structure IsPen (B : Nat) (w : World) (p : Nat) (v : Value) (l : List Int) : Prop where
  st : Blk w p 139 #[v]
  b1 : B ≤ p
  own : Own8 B w v l

theorem own8_ne {B p : Nat} {w : World} {v : Value} {l : List Int} {t : TypeId} {cs : Array Value} (h : Own8 B w v l) (hb : Blk w p t cs) (ht : 5 ≠ t) : v.ownBlock ≠ some p := own_ne h hb ht

/-- An append of one byte, which is laid in a block of its own ahead; no bounds. -/
theorem app8_raw {ty : TypeId} {B : Nat} {w : World} {v : Value} {l : List Int} (x : Int) (h : Own8 B w v l) (hlen : l.length + 1 ≤ 1000000000) (hB : B ≤ w.heap.size) :
    ∃ v' w', (APs #[28, 28] ty #[v, .slice (some ⟨w.heap.size, 0, none⟩) 1 1]).run Tryz.prog (w.alloc (.cells #[.int .u8 x] 5)) = .ok v' w' ∧ Own8 B w' v' (l ++ [x]) ∧ Fr (fun k => v.ownBlock = some k) w w' ∧ Foot w v v' := by
  have hb : Blk (w.alloc (.cells #[.int .u8 x] 5)) w.heap.size 5 #[.int .u8 x] := Blk.new w _ _
  obtain ⟨v', w', h1, h2, h3, h4⟩ := APs_own (P := Tryz.prog) (ty := ty) u22 ib5 (by omega) (World.ownsRow.alloc h (.cells #[.int .u8 x] 5)) (a := ⟨w.heap.size, 0, none⟩) (m := 1) (c := 1) [.int .u8 x] rfl
    (fun j u hu => by
      have hadd : (⟨w.heap.size, 0, none⟩ : Addr).add j = ⟨w.heap.size, j, none⟩ := by unfold Addr.add; split <;> simp_all
      rw [hadd, hb.cell j]
      simpa using hu) (by intro u hu; simp at hu; subst hu; rfl) (by unfold maxLen; omega) (by omega) (by simp; omega)
  refine ⟨v', w', h1, ?_, ((Fr.refl _ w).alloc (.cells #[.int .u8 x] 5)).grown h3 (fun k _ e => e), ?_⟩
  · unfold Own8
    rw [bys_app, List.length_append]
    exact h2
  · intro j hj
    rcases h4 with e | e
    · exact .inl (e ▸ hj)
    · right
      rw [e] at hj
      simp at hj
      omega

theorem keeps_of_fr {F : Nat → Prop} {W W' : World} (hf : Fr F W W') (hF : ∀ k o, F k → W.heap[k]? = some o → o.isCells = true) : KeepsOthers W W' :=
  ⟨hf.size, fun k o hk ho => (hf.block k (Array.getElem?_eq_some_iff.1 hk).1 (fun h => by rw [hF k o h hk] at ho; cases ho)).trans hk⟩

theorem fr_put {w W : World} {D : Nat} {o : Obj} (o' : Obj) (hD : w.heap.size ≤ D) (h : W.heap[D]? = some o) (hc : o.isCells = false) (hw : o.isWalk = false) : Fr (fun j => j = D) W (W.putObj D o') := by
  have hb := belowK_b (n₀ := 0) (w := w) (Nat.zero_le _) W D o o' hD h hc hw
  exact ⟨hb.os, hb.tape, hb.output, hb.size, fun k hk hg => World.putObj_heap_other hg⟩
theorem own_sl (A : Option Addr) (n c n' c' : Nat) : (Value.slice A n c).ownBlock = (Value.slice A n' c').ownBlock := by cases A <;> rfl
theorem fr_grown {X Y : World} {row : Option Nat} (hg : X.grownBy Y row) : Fr (fun j => row = some j) X Y := (Fr.refl _ X).grown hg (fun _k _ e => e)

set_option maxHeartbeats 8000000 in
theorem num_any (B p : Nat) (v : Value) (l : List Int) (n : Nat) (hn : n < 18446744073709551616) (w : World) (h : IsPen B w p v l) (hl : l.length ≤ 500000000) (hB : B ≤ w.heap.size) :
    Calls Tryz.prog 62 #[.pointer (some ⟨p, 0, none⟩), .int .u64 (n : Int)] w fun e w' => e = .returned (.tuple #[]) ∧ (∃ v', IsPen B w' p v' (l ++ numP n) ∧ Foot w v v') ∧ Fr (fun k => k = p ∨ v.ownBlock = some k) w w' := by
  have hpl := h.st.lt
  have H := Lib.hid h
  have hb0 := Blk.new w 195 #[.pointer (some ⟨p, 0, none⟩)]
  have hB0 : Below w.heap.size w (w.alloc (.cells #[.pointer (some ⟨p, 0, none⟩)] 195)) := (Below.refl _ w).alloc (Nat.le_refl _) _
  clear h
  refine (callsIn_wide (n := 8)).1 ?_
  refine callsIn_of_wp_marks Tryz.func62 rfl trivial ?_ rfl
  refine wpIn_wide.2 ?_
  simp only [Tryz.ntmps62, List.size_toArray, List.length_cons, List.length_nil, Nat.reduceAdd, Nat.reduceSub, Array.replicate_succ, Array.replicate_zero, List.push_toArray, List.append_toArray, List.nil_append, List.cons_append]
  go_wp2_with fail
  go_loopw [1, 4] (fun t u wr => ∃ (m : Nat) (done : List Int), t = .int .u64 m ∧ m ≤ n ∧ leP n = done ++ leP m ∧ Own8 (w.heap.size + 1) wr u done ∧ Blk wr w.heap.size 195 #[.pointer (some ⟨p, 0, none⟩)] ∧ Below w.heap.size w wr)
    (fun t _ _ => (intOf t).toNat)
  case atStart => exact ⟨n, [], rfl, Nat.le_refl _, rfl, Own8.nil _ _, hb0, hB0⟩
  case round =>
    clear hb0 hB0
    obtain ⟨m, done, rfl, hm, hle, ho, hb, hbl⟩ := hrel
    have hdl : done.length ≤ 8 := by
      have h1 := leP_len8 hn
      rw [hle, List.length_append] at h1
      omega
    have hBs : w.heap.size + 1 ≤ wr.heap.size := hb.lt
    by_cases h0 : 0 < m
    · obtain ⟨v', w', hap, ho', hf', _⟩ := app8_raw (ty := 28) ((m : Int) % 256) ho (by omega) hBs
      obtain ⟨A2, c2, rfl⟩ := ho.form
      obtain ⟨A3, c3, rfl⟩ := ho'.form
      rw [List.length_append] at hap ho'
      have HO := Lib.hid ho'
      have HO0 := Lib.hid ho
      have HF := Lib.hid hf'
      have HB := Lib.hid hb
      have HBl := Lib.hid hbl
      have HL := Lib.hid hle
      have hpos : (0 : Int) < (m : Int) := by omega
      clear ho ho' hf' hb hbl hle
      go_wp2_with fail
      go_roundw
      case rel =>
        refine ⟨m / 256, _, by go_num, by omega, ?_, HO.out, HB.out.fr HF.out (fun e => by have := (HO0.out.lt e).1; omega), HBl.out.trans (HF.out.below HBl.out.size (fun k hk e => by have := (HO0.out.lt e).1; omega))⟩
        rw [HL.out, leP_pos h0]
        simp
      case measure => simp [intOf]; omega
    · obtain rfl : m = 0 := by omega
      rw [leP_zero, List.append_nil] at hle
      obtain ⟨A2, c2, rfl⟩ := ho.form
      have hp := H.out.own.fr (Fr.of_below hbl) (fun k hk h => by have := (H.out.own.lt hk).2; omega)
      have hst := H.out.st.fr (Fr.of_below hbl) (by omega)
      obtain ⟨A4, c4, hv⟩ := H.out.own.form
      subst hv
      obtain ⟨k, hk⟩ : ∃ k, done.length = k := ⟨_, rfl⟩
      have hk8 : k ≤ 8 := by omega
      obtain ⟨v5, w5, hap, ho5, hf5, hft5⟩ := app8_raw (ty := 28) (w := wr.drew) ((k : Int)) hp (by omega) (by have := hbl.size; simp; omega)
      have hap' : (APs #[28, 28] 28 #[.slice A4 l.length c4, .slice (some ⟨wr.heap.size, 0, none⟩) 1 1]).run Tryz.prog (wr.alloc (.cells #[.int .u8 (k : Int)] 5)).drew = .ok v5 w5 := hap
      clear hap
      obtain ⟨A5, c5, rfl⟩ := ho5.form
      rw [List.length_append] at hap' ho5
      have k1 : wr.cell? ⟨w.heap.size, 0, none⟩ = some (.pointer (some ⟨p, 0, none⟩)) := hb.cell 0
      have k2 : wr.cell? ⟨p, 0, none⟩ = some (.slice A4 l.length c4) := hst.cell 0
      have k1' : (wr.alloc (.cells #[.int .u8 (k : Int)] 5)).cell? ⟨w.heap.size, 0, none⟩ = some (.pointer (some ⟨p, 0, none⟩)) := (hb.alloc _).cell 0
      have k2' : (wr.alloc (.cells #[.int .u8 (k : Int)] 5)).cell? ⟨p, 0, none⟩ = some (.slice A4 l.length c4) := (hst.alloc _).cell 0
      have hne1 := own8_ne hp hst (by decide)
      have hne2 := own8_ne hp hb (by decide)
      have hb5 := (hb.drew).fr hf5 (fun e => hne2 e)
      have hst5 := (hst.drew).fr hf5 (fun e => hne1 e)
      have k1'' : w5.cell? ⟨w.heap.size, 0, none⟩ = some (.pointer (some ⟨p, 0, none⟩)) := hb5.cell 0
      have k2'' : w5.cell? ⟨p, 0, none⟩ = some (.slice A4 l.length c4) := hst5.cell 0
      have f2 := hst5.frozen 0
      rw [hk] at ho ⊢
      simp only [List.length_cons, List.length_nil, Nat.zero_add] at hap' ho5
      have H5 := Lib.hid hst5
      have HB5 := Lib.hid hb5
      have HO5 := Lib.hid ho5
      have HF5 := Lib.hid hf5
      have HFT5 := Lib.hid hft5
      have HP := Lib.hid hp
      have HBl := Lib.hid hbl
      have HL := Lib.hid hle
      have HD := Lib.hid ho
      have HK := Lib.hid hk
      clear hst5 hb5 ho5 hf5 hft5 hp hst hbl hle ho hb hk hne1 hne2 hdl
      go_wp2_with fail
      go_region
      all_goals
        go_wp2_with fail
        have a0 : Blk (w5.setCell ⟨p, 0, none⟩ (.slice A5 (l.length + 1) c5)) p 139 #[.slice A5 (l.length + 1) c5] := by simpa using H5.out.set_ 0 (.slice A5 (l.length + 1) c5)
        have hpw : p ≠ w.heap.size := by have := hpl; omega
        have a1 : Blk (w5.setCell ⟨p, 0, none⟩ (.slice A5 (l.length + 1) c5)) w.heap.size 195 #[.pointer (some ⟨p, 0, none⟩)] := HB5.out.far (p := ⟨p, 0, none⟩) (fun e => hpw e.symm) _
        have hnp := own8_ne HO5.out H5.out (by decide)
        have a2 : Own8 B (w5.setCell ⟨p, 0, none⟩ (.slice A5 (l.length + 1) c5)) (.slice A5 (l.length + 1) c5) (l ++ [(k : Int)]) := HO5.out.fr (F := fun j => j = p) ((Fr.refl (fun j => j = p) w5).setCell (p := ⟨p, 0, none⟩) (fun _ => rfl) _) (fun j hj e => hnp (e ▸ hj))
        have a3 : Fr (fun j => j = p ∨ (Value.slice A4 l.length c4).ownBlock = some j) w (w5.setCell ⟨p, 0, none⟩ (.slice A5 (l.length + 1) c5)) :=
          ((Fr.of_below HBl.out).mono (fun j hj h => absurd hj (by omega))).trans ((((Fr.refl (fun j => (Value.slice A4 l.length c4).ownBlock = some j) wr).drew.trans HF5.out (fun _ _ h => h)).mono (G := fun j => j = p ∨ (Value.slice A4 l.length c4).ownBlock = some j) (fun j _ h => .inr h)).setCell (p := ⟨p, 0, none⟩) (fun _ => .inl rfl) _) (fun _ _ h => h)
        have a4 : w.heap.size + 1 ≤ w5.heap.size := HB5.out.lt
        have a5 : Fr (fun j => j = p ∨ (Value.slice A4 l.length c4).ownBlock = some j) wr (w5.setCell ⟨p, 0, none⟩ (.slice A5 (l.length + 1) c5)) :=
          ((((Fr.refl (fun j => (Value.slice A4 l.length c4).ownBlock = some j) wr).drew.trans HF5.out (fun _ _ h => h)).mono (G := fun j => j = p ∨ (Value.slice A4 l.length c4).ownBlock = some j) (fun j _ h => .inr h)).setCell (p := ⟨p, 0, none⟩) (fun _ => .inl rfl) _)
        have hrun := (callsIn_wide.1 (backB_in Fence.wide 5 trivial rfl A2 k c2 (w5.setCell ⟨p, 0, none⟩ (.slice A5 (l.length + 1) c5))))
        refine hrun.mono ?_
        rintro e W7 ⟨rfl, hW7⟩
        obtain ⟨W6, hW6⟩ : ∃ W6, w5.setCell ⟨p, 0, none⟩ (.slice A5 (l.length + 1) c5) = W6 := ⟨_, rfl⟩
        have hs6 : W6.heap.size = w5.heap.size := by rw [← hW6]; simp
        rw [hW6] at a0 a1 a2 a3 a5 hW7 ⊢
        have q0 := a0.alloc (.cells #[.slice A2 k c2] 28)
        have q1 := a1.alloc (.cells #[.slice A2 k c2] 28)
        have q2 : Own8 B (W6.alloc (.cells #[.slice A2 k c2] 28)) (.slice A5 (l.length + 1) c5) (l ++ [(k : Int)]) := World.ownsRow.alloc a2 _
        have q3 := a3.alloc (.cells #[.slice A2 k c2] 28)
        have q6 := a5.alloc (.cells #[.slice A2 k c2] 28)
        have q4 := Blk.new W6 28 #[.slice A2 k c2]
        have q5 : W7.heap.size = w5.heap.size + 1 := by rw [hW7, World.size_alloc, hs6]
        rw [← hW7] at q0 q1 q2 q3 q4 q6
        clear hW7 hW6 a0 a1 a2 a3 a5 hrun
        rw [hs6] at q4
        simp only [hs6]
        have hdb : ∀ y ∈ done, 0 ≤ y ∧ y ≤ 255 := fun y hy => leP_bd n y (by rw [HL.out]; exact hy)
        have hba : BytesAt (fun j => j = p ∨ (Value.slice A5 (l.length + 1) c5).ownBlock = some j ∨ W7.heap.size ≤ j) W7 A2 done := fun i hi => by
          obtain ⟨A', c', e1, hy, _, _⟩ := HD.out.byt hdb
          cases e1
          obtain ⟨g, o, rfl, hg, hc⟩ := hy.cell (by omega)
          have hlt := HD.out.lt (k := g) rfl
          have hn1 : ¬ (g = p ∨ (Value.slice A4 l.length c4).ownBlock = some g) := by
            rintro (e | e)
            · omega
            · have := (H.out.own.lt e).2; omega
          refine ⟨g, o, rfl, Nat.lt_of_lt_of_le hg q6.size, ?_, (q6.cell (p := ⟨g, o + i, none⟩) hg hn1).trans (hc i _ (by simp [hi]))⟩
          rintro (e | e | e)
          · omega
          · rcases HFT5.out g ((own_sl A5 _ _ _ _).trans e) with h | h
            · exact hn1 (.inr h)
            · have : (wr.drew).heap.size = wr.heap.size := rfl
              omega
          · have := q6.size; omega
        have HBA := Lib.hid hba
        have Q0 := Lib.hid q0
        have Q1 := Lib.hid q1
        have Q2 := Lib.hid q2
        have Q3 := Lib.hid q3
        have Q4 := Lib.hid q4
        have Q5 := Lib.hid q5
        have A4h := Lib.hid a4
        have HP5 := Lib.hid hpl
        clear hba hdb q0 q1 q2 q3 q4 q5 q6 k1 k2 k1' k2' k1'' k2'' f2 hap'
        go_wp2_with fail
        refine (wpIn_wide (n := 8)).1 ?_
        refine wpIn_rangeFunc_ownH rfl (by omega) (gf := 147) (lb := #[.pointer (some ⟨w5.heap.size, 0, none⟩)]) rfl trivial (enters_of Tryz.func147 (by kernel_rfl) rfl)
          (backB_stops Fence.wide 7 trivial rfl (by omega) w5.heap.size c2 (fun j => j = p ∨ (Value.slice A5 (l.length + 1) c5).ownBlock = some j ∨ W7.heap.size ≤ j) A2 done (by have := HK.out; omega) W7 ⟨by have := Q5.out; omega, ?b1⟩ (by rw [HK.out]; exact Q4.out.cell 0) HBA.out) frK_t (frK_b (fun j h => .inr (.inr h))) (Below.refl _ _) (fun _ => rfl)
          (fun pre W => ∃ v', IsPen B W p v' (l ++ [(k : Int)] ++ pre.map (·.2)) ∧ Foot W7 (.slice A5 (l.length + 1) c5) v' ∧ Blk W w.heap.size 195 #[.pointer (some ⟨p, 0, none⟩)] ∧ Fr (fun j => j = p ∨ (Value.slice A5 (l.length + 1) c5).ownBlock = some j ∨ W7.heap.size ≤ j) W7 W)
          (fun c pre W => False)
          (fun s X Y row hs hg hr => ?b2)
          (fun c s X Y row hs hg hr => hs)
          ⟨_, ⟨Q0.out, H.out.b1, by simpa using Q2.out⟩, Foot.refl _ _, Q1.out, Fr.refl _ _⟩
          (fun x a' W => a' = { tmps := #[.pointer (some ⟨p, 0, none⟩), .int .u64 ((0 : Nat) : Int), .pointer (some ⟨w.heap.size, 0, none⟩), undef, .slice A2 k c2, undef, .int .u8 x.2, .int .u64 ((0 : Nat) : Int), .bool false, u9, u10, u11, u12, u13, u14, u15, .pointer (some ⟨p, 0, none⟩), .pointer (some ⟨p, 0, none⟩), .pointer (some ⟨p, 0, none⟩), .pointer (some ⟨p, 0, none⟩), .slice A4 l.length c4, .slice A2 k c2, .int .i64 (k : Int), .int .u8 (k : Int), .slice (some ⟨wr.heap.size, 0, none⟩) 1 1, .slice A5 (l.length + 1) c5, .pointer (some ⟨p, 0, none⟩), .pointer (some ⟨p, 0, none⟩), .slice A2 k c2, .func (.func 147) #[] #[.pointer (some ⟨w5.heap.size, 0, none⟩)], .int .i64 (x.1 : Int), .int .u8 x.2, undef, undef, undef, undef, undef, undef, undef, undef, undef, undef], defers := [] })
          (fun x a' s X Y row hs hg hr => hs)
          ?assign ?body ?done ?stop
        case b1 =>
          rintro (e | e | e)
          · have := HP5.out; have := A4h.out; omega
          · have := (HO5.out.lt e).2; omega
          · have := Q5.out; omega
        case b2 =>
          obtain ⟨v', hp', hft, hb', hfr⟩ := hs
          have hgf := fr_grown hg
          have hcell : ∀ r cs t, row = some r → Blk X r t cs → False := fun r cs t e hb => by
            obtain ⟨_, ob, ho, hc⟩ := hr r e
            rw [show X.heap[r]? = _ from hb] at ho
            cases ho
            cases hc
          refine ⟨v', ⟨hp'.st.fr hgf (fun e => hcell _ _ _ e hp'.st), hp'.b1, hp'.own.fr hgf (fun j hj e => ?_)⟩, hft, hb'.fr hgf (fun e => hcell _ _ _ e hb'), hfr.trans hgf (fun j hj e => .inr (.inr (hr j e).1))⟩
          obtain ⟨cs, hbk, _⟩ := own_blk hp'.own hj
          exact hcell _ _ _ e hbk
        case assign =>
          rintro l' pre x W KK ⟨v', hp', hft, hb', hfr⟩ hK
          have hK' := hK { tmps := #[.pointer (some ⟨p, 0, none⟩), .int .u64 ((0 : Nat) : Int), .pointer (some ⟨w.heap.size, 0, none⟩), undef, .slice A2 k c2, undef, .int .u8 x.2, .int .u64 ((0 : Nat) : Int), .bool false, u9, u10, u11, u12, u13, u14, u15, .pointer (some ⟨p, 0, none⟩), .pointer (some ⟨p, 0, none⟩), .pointer (some ⟨p, 0, none⟩), .pointer (some ⟨p, 0, none⟩), .slice A4 l.length c4, .slice A2 k c2, .int .i64 (k : Int), .int .u8 (k : Int), .slice (some ⟨wr.heap.size, 0, none⟩) 1 1, .slice A5 (l.length + 1) c5, .pointer (some ⟨p, 0, none⟩), .pointer (some ⟨p, 0, none⟩), .slice A2 k c2, .func (.func 147) #[] #[.pointer (some ⟨w5.heap.size, 0, none⟩)], .int .i64 (x.1 : Int), .int .u8 x.2, undef, undef, undef, undef, undef, undef, undef, undef, undef, undef], defers := [] } W (KeepsFrom.refl _ _) (Fr.refl _ _) ⟨v', hp', hft, hb', hfr⟩ rfl
          clear hK
          simp only [encB]
          gi_wp2
          exact hK'
        case body =>
          rintro l' pre x a' W hl' ⟨r, hr⟩ ⟨v', hp', hft, hb', hfr⟩ rfl hlt
          obtain ⟨q, hq⟩ : ∃ q, l ++ [(k : Int)] ++ pre.map (·.2) = q := ⟨_, rfl⟩
          rw [hq] at hp'
          have hlen8 : q.length ≤ 500000010 := by
            have := HK.out
            rw [← hq]
            simp
            omega
          have hBW : B ≤ W.heap.size := by have := hfr.size; have := Q5.out; have := A4h.out; omega
          obtain ⟨v9, w9, hap, ho9, hf9, hft9⟩ := app8_raw (ty := 28) (w := W.drew) x.2 hp'.own (by omega) hBW
          obtain ⟨A8, c8, rfl⟩ := hp'.own.form
          obtain ⟨A9, c9, rfl⟩ := ho9.form
          obtain ⟨N8, hN8⟩ : ∃ N8, q.length = N8 := ⟨_, rfl⟩
          rw [List.length_append, hN8] at hap ho9 hft9
          simp only [List.length_cons, List.length_nil, Nat.zero_add] at hap ho9 hft9
          rw [hN8] at hp' hft hf9
          have HQ := Lib.hid hq
          have HN8 := Lib.hid hN8
          clear hq hN8 hlen8
          have hap' : (APs #[28, 28] 28 #[.slice A8 N8 c8, .slice (some ⟨W.heap.size, 0, none⟩) 1 1]).run Tryz.prog (W.alloc (.cells #[.int .u8 x.2] 5)).drew = .ok (.slice A9 (N8 + 1) c9) w9 := hap
          have k1 : W.cell? ⟨w.heap.size, 0, none⟩ = some (.pointer (some ⟨p, 0, none⟩)) := hb'.cell 0
          have k2 : W.cell? ⟨p, 0, none⟩ = some (.slice A8 N8 c8) := hp'.st.cell 0
          have k1' : (W.alloc (.cells #[.int .u8 x.2] 5)).cell? ⟨w.heap.size, 0, none⟩ = some (.pointer (some ⟨p, 0, none⟩)) := (hb'.alloc _).cell 0
          have k2' : (W.alloc (.cells #[.int .u8 x.2] 5)).cell? ⟨p, 0, none⟩ = some (.slice A8 N8 c8) := (hp'.st.alloc _).cell 0
          have hne1 := own8_ne hp'.own hp'.st (by decide)
          have hne2 := own8_ne hp'.own hb' (by decide)
          have hb9 := (hb'.drew).fr hf9 (fun e => hne2 e)
          have hst9 := (hp'.st.drew).fr hf9 (fun e => hne1 e)
          have k1'' : w9.cell? ⟨w.heap.size, 0, none⟩ = some (.pointer (some ⟨p, 0, none⟩)) := hb9.cell 0
          have k2'' : w9.cell? ⟨p, 0, none⟩ = some (.slice A8 N8 c8) := hst9.cell 0
          have f2 := hst9.frozen 0
          have P' := Lib.hid hp'
          have FT := Lib.hid hft
          have FR := Lib.hid hfr
          have B9 := Lib.hid hb9
          have S9 := Lib.hid hst9
          have O9 := Lib.hid ho9
          have F9 := Lib.hid hf9
          have FT9 := Lib.hid hft9
          clear hp' hft hfr hb' hb9 hst9 ho9 hf9 hft9 hap hne1 hne2
          gi_wp2_with fail
          refine wpIn_mono (Q := fun e a' w' => e = .normal ∧ a'.defers = [] ∧ w' = w9.setCell ⟨p, 0, none⟩ (.slice A9 (N8 + 1) c9)) ?reg ?post
          case reg =>
            refine wpIn_region_plain (by kernel_rfl) (by kernel_rfl) (by rintro ⟨_, _, h, _⟩; cases h) ?_
            have hS0 : W.drew.cell? ⟨w.heap.size, 0, none⟩ = some (.pointer (some ⟨p, 0, none⟩)) := k1
            refine wpAny_of_held (S := fun w' => w'.cell? ⟨w.heap.size, 0, none⟩ = some (.pointer (some ⟨p, 0, none⟩))) _ _ _ _ ?_
            refine wpAnyH_take (i := 0) (v := .pointer (some ⟨p, 0, none⟩)) rfl (by kernel_rfl) (by kernel_rfl) (by kernel_rfl) (fun _ _ _ h => absurd h.1 (by simp)) (Or.inl ⟨by rfl, fun W' hS => ?_⟩) hS0 ?_
            · simp only at hS
              go_simp
            refine wpAnyH_take (i := 1) (v := .pointer (some ⟨p, 0, none⟩)) rfl (by kernel_rfl) (by kernel_rfl) (by kernel_rfl) (fun _ _ _ h => absurd h.1 (by simp)) (Or.inl ⟨by rfl, fun W' hS => ?_⟩) hS0 ?_
            · simp only at hS
              go_simp
            refine wpAnyH_take (i := 2) (v := .pointer (some ⟨p, 0, none⟩)) rfl (by kernel_rfl) (by kernel_rfl) (by kernel_rfl) (fun _ _ _ h => absurd h.1 (by simp)) (Or.inl ⟨by rfl, fun W' _ => ?_⟩) hS0 ?_
            · go_simp
            refine wpAnyH_take (i := 3) (v := .pointer (some ⟨p, 0, none⟩)) rfl (by kernel_rfl) (by kernel_rfl) (by kernel_rfl) (fun _ _ _ h => absurd h.1 (by simp)) (Or.inl ⟨by rfl, fun W' _ => ?_⟩) hS0 ?_
            · go_simp
            refine wpAnyH_take (i := 5) (v := .int .u8 x.2) rfl (by kernel_rfl) (by kernel_rfl) (by kernel_rfl) (fun _ _ _ h => absurd h.1 (by simp)) (Or.inl ⟨by rfl, fun W' _ => ?_⟩) hS0 ?_
            · go_simp
            refine wpAnyH_all (rs := [4, 6]) (by kernel_rfl) (by simp) ?_
            intro i hi
            simp only [List.mem_cons, List.mem_nil_iff, or_false] at hi
            have hS9 : (w9.setCell ⟨p, 0, none⟩ (.slice A9 (N8 + 1) c9)).cell? ⟨w.heap.size, 0, none⟩ = some (.pointer (some ⟨p, 0, none⟩)) := (B9.out.far (p := ⟨p, 0, none⟩) (fun e => by have := HP5.out; simp at e; omega) _).cell 0
            have HS9 := Lib.hid hS9
            clear hS9
            have k1d : (W.alloc (.cells #[.int .u8 x.2] 5)).drew.cell? ⟨w.heap.size, 0, none⟩ = some (.pointer (some ⟨p, 0, none⟩)) := k1'
            rcases hi with rfl | rfl
            · skip
              refine wpOp_step rfl (fun K hK => ?_)
              go_simp
              refine hK _ _ ⟨hS0, ?_⟩
              clear hK K
              refine wpAnyH_all (rs := [6]) (by kernel_rfl) (by simp) ?_
              intro i hi
              simp only [List.mem_singleton] at hi
              subst hi
              refine wpOp_step rfl (fun K hK => ?_)
              go_simp
              refine hK _ _ ⟨by first | exact k1d | exact k1', ?_⟩
              clear hK K
              refine wpAnyH_all (rs := [7]) (by kernel_rfl) (by simp) ?_
              intro i hi
              simp only [List.mem_singleton] at hi
              subst hi
              refine wpOp_want (o := ⟨some 39, _, _, _, _, _⟩) rfl rfl (fun K hK => ?_)
              go_big_op
              refine hK _ _ ⟨k1'', ?_⟩
              clear hK K
              refine wpAnyH_all (rs := [8]) (by kernel_rfl) (by simp) ?_
              intro i hi
              simp only [List.mem_singleton] at hi
              subst hi
              refine wpOp_step rfl (fun K hK => ?_)
              go_simp
              refine hK _ _ ⟨k1'', ?_⟩
              clear hK K
              refine wpAnyH_all (rs := [9]) (by kernel_rfl) (by simp) ?_
              intro i hi
              simp only [List.mem_singleton] at hi
              subst hi
              refine wpOp_step rfl (fun K hK => ?_)
              go_simp
              refine hK _ _ ⟨k1'', ?_⟩
              clear hK K
              refine wpAnyH_all (rs := [10]) (by kernel_rfl) (by simp) ?_
              intro i hi
              simp only [List.mem_singleton] at hi
              subst hi
              refine wpOp_step rfl (fun K hK => ?_)
              go_simp
              refine hK _ _ ⟨HS9.out, ?_⟩
              clear hK K
              exact wpAnyH_done (by kernel_rfl) ⟨rfl, rfl, rfl⟩ _
            · skip
              refine wpOp_step rfl (fun K hK => ?_)
              go_simp
              refine hK _ _ ⟨by first | exact k1d | exact k1', ?_⟩
              clear hK K
              refine wpAnyH_all (rs := [4]) (by kernel_rfl) (by simp) ?_
              intro i hi
              simp only [List.mem_singleton] at hi
              subst hi
              refine wpOp_step rfl (fun K hK => ?_)
              go_simp
              refine hK _ _ ⟨by first | exact k1d | exact k1', ?_⟩
              clear hK K
              refine wpAnyH_all (rs := [7]) (by kernel_rfl) (by simp) ?_
              intro i hi
              simp only [List.mem_singleton] at hi
              subst hi
              refine wpOp_want (o := ⟨some 39, _, _, _, _, _⟩) rfl rfl (fun K hK => ?_)
              go_big_op
              refine hK _ _ ⟨k1'', ?_⟩
              clear hK K
              refine wpAnyH_all (rs := [8]) (by kernel_rfl) (by simp) ?_
              intro i hi
              simp only [List.mem_singleton] at hi
              subst hi
              refine wpOp_step rfl (fun K hK => ?_)
              go_simp
              refine hK _ _ ⟨k1'', ?_⟩
              clear hK K
              refine wpAnyH_all (rs := [9]) (by kernel_rfl) (by simp) ?_
              intro i hi
              simp only [List.mem_singleton] at hi
              subst hi
              refine wpOp_step rfl (fun K hK => ?_)
              go_simp
              refine hK _ _ ⟨k1'', ?_⟩
              clear hK K
              refine wpAnyH_all (rs := [10]) (by kernel_rfl) (by simp) ?_
              intro i hi
              simp only [List.mem_singleton] at hi
              subst hi
              refine wpOp_step rfl (fun K hK => ?_)
              go_simp
              refine hK _ _ ⟨HS9.out, ?_⟩
              clear hK K
              exact wpAnyH_done (by kernel_rfl) ⟨rfl, rfl, rfl⟩ _
          case post =>
            rintro e a' w' ⟨rfl, hdf, rfl⟩
            gi_wp2_with fail
            have hF : ∀ u, Fr (fun j => j = p ∨ (Value.slice A8 N8 c8).ownBlock = some j) W (w9.setCell ⟨p, 0, none⟩ u) := fun u =>
              (((Fr.refl (fun j => (Value.slice A8 N8 c8).ownBlock = some j) W).drew.trans F9.out (fun _ _ h => h)).mono (G := fun j => j = p ∨ (Value.slice A8 N8 c8).ownBlock = some j) (fun j _ h => .inr h)).setCell (p := ⟨p, 0, none⟩) (fun _ => .inl rfl) _
            have hG : ∀ u, Fr (fun j => j = p ∨ (Value.slice A5 (l.length + 1) c5).ownBlock = some j ∨ W7.heap.size ≤ j) W (w9.setCell ⟨p, 0, none⟩ u) := fun u => (hF u).mono (fun j _ h => by
              rcases h with h | h
              · exact .inl h
              · exact .inr (FT.out j h))
            have hpw : p ≠ w.heap.size := by have := HP5.out; omega
            have hnp := own8_ne O9.out S9.out (by decide)
            refine ⟨KeepsOthers.from (keeps_of_fr (hF _) (fun j o hj ho => ?_)) _, hG _, ⟨.slice A9 (N8 + 1) c9, ⟨by simpa using S9.out.set_ 0 (.slice A9 (N8 + 1) c9), H.out.b1, ?_⟩, ?_, B9.out.far (p := ⟨p, 0, none⟩) (fun e => hpw e.symm) _, FR.out.trans (hG _) (fun _ _ h => h)⟩⟩
            · rcases hj with rfl | hj
              · rw [show W.heap[j]? = _ from P'.out.st] at ho
                cases ho
                rfl
              · obtain ⟨cs, hbk, _⟩ := own_blk P'.out.own hj
                rw [show W.heap[j]? = _ from hbk] at ho
                cases ho
                rfl
            · rw [List.map_append, ← List.append_assoc, HQ.out]
              exact O9.out.fr (F := fun j => j = p) ((Fr.refl (fun j => j = p) w9).setCell (p := ⟨p, 0, none⟩) (fun _ => rfl) _) (fun j hj e => hnp (e ▸ hj))
            · intro j hj
              rcases FT9.out j hj with h | h
              · exact FT.out j h
              · have e1 : (W.drew).heap.size = W.heap.size := rfl
                have := FR.out.size
                exact .inr (by omega)
        case done =>
          rintro D ys W hD rfl ⟨v', hp', hft, hb', hfr⟩ hK
          have hlist : l ++ [(k : Int)] ++ (backB done done.length).map (·.2) = l ++ numP n := by
            rw [backB_all]
            unfold numP beP
            rw [HL.out, HK.out]
            simp
          rw [hlist] at hp'
          have hFw : Fr (fun j => j = p ∨ (Value.slice A4 l.length c4).ownBlock = some j) w W := Q3.out.trans hfr (fun j hj h => by
            rcases h with h | h | h
            · exact .inl h
            · rcases HFT5.out j ((own_sl A5 _ _ _ _).trans h) with h | h
              · exact .inr h
              · have e1 : (wr.drew).heap.size = wr.heap.size := rfl
                have := HBl.out.size
                omega
            · have := Q5.out; have := A4h.out; omega)
          have hDc : ∀ r cs t, Blk W r t cs → r ≠ D := fun r cs t hb e => by
            have h1 := hK
            rw [← e, show W.heap[r]? = _ from hb] at h1
            cases h1
          have P' := Lib.hid hp'
          have FT := Lib.hid hft
          have FW := Lib.hid hFw
          have HKK := Lib.hid hK
          have HDD := Lib.hid hD
          have HDC := Lib.hid hDc
          clear hp' hft hb' hfr hK hD hlist hFw hDc
          go_wp2_with fail
          refine ⟨by simp, .inl ⟨_, _, rfl, run_takeDeferred HKK.out, ?_⟩⟩
          have hfp := fr_put (.deferred none) HDD.out HKK.out rfl rfl
          refine ⟨_, results_none rfl _ _ _, rfl, ⟨v', ⟨P'.out.st.fr hfp (HDC.out _ _ _ P'.out.st), P'.out.b1, P'.out.own.fr hfp (fun j hj e => ?_)⟩, ?_⟩, FW.out.trans hfp (fun j hj e => ?_)⟩
          · obtain ⟨cs, hbk, _⟩ := own_blk P'.out.own hj
            exact HDC.out _ _ _ hbk e
          · intro j hj
            rcases FT.out j hj with h | h
            · rcases HFT5.out j ((own_sl A5 _ _ _ _).trans h) with h | h
              · exact .inl h
              · have e1 : (wr.drew).heap.size = wr.heap.size := rfl
                have := HBl.out.size
                exact .inr (by omega)
            · have := Q5.out; have := A4h.out
              exact .inr (by omega)
          · have := Q5.out; have := A4h.out; have := HDD.out
            omega
        case stop =>
          rintro D c pre W _ _ hF _
          exact hF.elim

end Go.Proofs.YtdkanehjahpehaaGreatDoor
end

section
section
namespace Go.Proofs.YtdkanehjahpehaaGreatDoor
open Go.RowKit Go.Shelf
set_option maxRecDepth 100000
attribute [local go_sem ↓] ap22_of

set_option maxHeartbeats 4000000 in
theorem text_any (B p : Nat) (v : Value) (l : List Int) (A : Option Addr) (c : Nat) (hcA : A = none → c = 0) (b : List Int) (w : World) (h : IsPen B w p v l) (hb : Byt w A b) (hA : ∀ a, A = some a → 0 < b.length → ¬ (a.block = p ∨ v.ownBlock = some a.block)) (hl : l.length + b.length ≤ 140737488355000) (hl0 : l.length ≤ 400000000) (hB : B ≤ w.heap.size) :
    Calls Tryz.prog 64 #[.pointer (some ⟨p, 0, none⟩), .slice A b.length c] w fun e w' => e = .returned (.tuple #[]) ∧ (∃ v', IsPen B w' p v' (l ++ (numP b.length ++ b)) ∧ Foot w v v') ∧ Fr (fun k => k = p ∨ v.ownBlock = some k) w w' := by
  obtain ⟨m, hm⟩ : ∃ m, b.length = m := ⟨_, rfl⟩
  rw [hm]
  have hm2 : m ≤ 140737488355000 := by omega
  have H := Lib.hid h
  have HB := Lib.hid hb
  have HM := Lib.hid hm
  have HA := Lib.hid hA
  clear h hb hA hm
  go_enter Tryz.func64, Tryz.ntmps64
  go_wp2_with fail
  refine (num_any B p v l m (by omega) w H.out (by omega) hB).mono ?_
  rintro e w1 ⟨rfl, ⟨v1, h1, hft1⟩, hf1⟩
  have hb1 := HB.out.fr hf1 (fun a e h0 => HA.out a e (by rw [HM.out] at h0 ⊢; exact h0))
  have hnl : (numP m).length ≤ 9 := by
    have := leP_len8 (n := m) (by omega)
    rw [numP_len]; omega
  obtain ⟨v2, w2, hap, ho2, hf2, hft2⟩ := app8 (ty := 28) (c := c) h1.own hb1 (by rw [List.length_append]; have := HM.out; omega) (Nat.le_trans hB hf1.size) hcA
  obtain ⟨A1, c1, rfl⟩ := h1.own.form
  obtain ⟨A2, c2, rfl⟩ := ho2.form
  rw [HM.out] at hap
  have hne := own8_ne h1.own h1.st (by decide)
  have hst2 := h1.st.fr hf2 (fun e => hne e)
  obtain ⟨N1, hN1⟩ : ∃ N1, (l ++ numP m).length = N1 := ⟨_, rfl⟩
  obtain ⟨N2, hN2⟩ : ∃ N2, (l ++ numP m ++ b).length = N2 := ⟨_, rfl⟩
  have k1 : w1.cell? ⟨p, 0, none⟩ = some (.slice A1 N1 c1) := by rw [← hN1]; exact h1.st.cell 0
  have k2 : w2.cell? ⟨p, 0, none⟩ = some (.slice A1 N1 c1) := by rw [← hN1]; exact hst2.cell 0
  have f2 := hst2.frozen 0
  have hap' : (APs #[28, 28] 28 #[.slice A1 N1 c1, .slice A m c]).run Tryz.prog w1 = .ok (.slice A2 N2 c2) w2 := by rw [← hN1, ← hN2]; exact hap
  have H1 := Lib.hid h1
  have O2 := Lib.hid ho2
  have F1 := Lib.hid hf1
  have F2 := Lib.hid hf2
  have FT1 := Lib.hid hft1
  have FT2 := Lib.hid hft2
  have S2 := Lib.hid hst2
  have HN1 := Lib.hid hN1
  have HN2 := Lib.hid hN2
  clear h1 ho2 hf1 hf2 hft1 hft2 hst2 hb1 hap hne hN1 hN2
  go_wp2_with fail
  go_end0
  have hnp := own8_ne O2.out S2.out (by decide)
  refine ⟨rfl, ⟨.slice A2 N2 c2, ⟨by simpa using S2.out.set_ 0 (.slice A2 N2 c2), H.out.b1, ?_⟩, ?_⟩, ?_⟩
  · have e := O2.out.fr (F := fun j => j = p) ((Fr.refl (fun j => j = p) w2).setCell (p := ⟨p, 0, none⟩) (fun _ => rfl) (.slice A2 N2 c2)) (fun j hj e => hnp (e ▸ hj))
    rw [HN2.out, List.append_assoc] at e
    exact e
  · intro j hj
    rcases FT2.out j ((own_sl A2 _ _ _ _).trans hj) with h | h
    · exact FT1.out j h
    · exact .inr (Nat.le_trans F1.out.size h)
  · refine (F1.out.trans (F2.out.mono (G := fun j => j = p ∨ (Value.slice A1 N1 c1).ownBlock = some j) (fun j _ h => .inr ((own_sl A1 _ _ _ _).trans h))) (fun j hj h => ?_)).setCell (p := ⟨p, 0, none⟩) (fun _ => .inl rfl) _
    rcases h with h | h
    · exact .inl h
    · rcases FT1.out j ((own_sl A1 _ _ _ _).trans h) with h | h
      · exact .inr h
      · omega

set_option maxHeartbeats 2000000 in
theorem pbytes_any (B p : Nat) (v : Value) (l : List Int) (hlb : ∀ x ∈ l, 0 ≤ x ∧ x ≤ 255) (w : World) (h : IsPen B w p v l) (hl : l.length ≤ 140737488355328) :
    Calls Tryz.prog 65 #[.pointer (some ⟨p, 0, none⟩)] w fun e w' => ∃ v', e = .returned v' ∧ Own8 w.heap.size w' v' l ∧ Below w.heap.size w w' := by
  obtain ⟨A1, c1, e1, hby, _, hc⟩ := h.own.byt hlb
  have hcA : A1 = none → c1 = 0 := by
    rintro rfl
    obtain ⟨_, ⟨h2, _⟩ | ⟨g, cap, cur, h2, _⟩⟩ := h.own
    · rw [e1] at h2
      simp only [Value.slice.injEq] at h2
      exact h2.2.2
    · rw [e1] at h2
      simp at h2
  have k1 := h.st.cell 0
  rw [e1] at k1
  have k1' : w.cell? ⟨p, 0, none⟩ = some (.slice A1 l.length c1) := k1
  obtain ⟨n, hn⟩ : ∃ n, l.length = n := ⟨_, rfl⟩
  have HC := Lib.hid (clone_any A1 c1 hcA l w hby hl)
  rw [hn] at k1'
  have HN := Lib.hid hn
  clear k1 e1 hby h hn
  go_enter Tryz.func65, Tryz.ntmps65
  go_wp2_with fail
  have hcl := HC.out
  rw [HN.out] at hcl
  refine hcl.mono ?_
  rintro e w' ⟨v', rfl, ho, hb⟩
  have HO := Lib.hid ho
  have HB := Lib.hid hb
  clear ho hb hcl HC
  go_wp2_with fail
  go_ret
  exact ⟨v', rfl, HO.out, HB.out⟩

end Go.Proofs.YtdkanehjahpehaaGreatDoor
end

section
namespace Go.Proofs.YtdkanehjahpehaaGreatDoor
open Go.RowKit Go.Shelf
set_option maxRecDepth 100000
theorem ap223_of (xs : Array Value) (t : TypeId) : Builtin.append_ #[28, 3] t xs = APs #[28, 3] t xs := rfl
attribute [local go_sem ↓] ap22_of ap223_of

/-- The error with which Form answers. -/
def formE (t n : Int) (b : List Int) : Int :=
  if ¬ (0 ≤ t ∧ t ≤ 1099511627776) ∨ ¬ (0 ≤ n ∧ n ≤ 1099511627776) then 5 else if 1024 < secP (12 + (fieldsP t.toNat n.toNat b).length) then 4 else 0
/-- The bytes. -/
def formV (t n : Int) (b : List Int) : List Int := if formE t n b = 0 then formP t.toNat n.toNat b else []

end Go.Proofs.YtdkanehjahpehaaGreatDoor
end
end
