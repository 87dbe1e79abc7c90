/-
  The document's records of a stretch (seisinref13.Scan); whether texts are the same (seisinref13.Same).
-/
import Derived.Test.YtohadeijmmmcdaaDoorRRead
import Derived.Test.YtohadeijmmmcdaaDoorScanC
namespace Go.Proofs.YtohadeijmmmcdaaDoor
open Go.RowKit
set_option maxRecDepth 100000

theorem TxV.fr0 {w w' : World} {x : Value} {l : List Int} {F : Nat → Prop} (h : TxV w x l) (hf : Fr F w w') (hn : ∀ k, x.ownBlock = some k → 0 < l.length → ¬ F k) : TxV w' x l := by
  obtain ⟨A, c, rfl, hb, hc⟩ := h
  exact ⟨A, c, rfl, hb.fr hf (fun a e h0 => hn _ (by subst e; rfl) h0), hc⟩

/-- The slice v, in a row of one's own, has the texts L, each in a block of G. -/
def OwnV (B : Nat) (G : Nat → Prop) (w : World) (v : Value) (L : List (List Int)) : Prop :=
  ∃ xs, w.ownsRow B 22 1 v L.length xs ∧ xs.length = L.length ∧ ∀ (i : Nat) (h : i < xs.length) (h' : i < L.length), TxV w xs[i] L[i] ∧ ∀ k, xs[i].ownBlock = some k → 0 < L[i].length → G k

section
variable {B : Nat} {G : Nat → Prop} {w w' : World} {v : Value} {L : List (List Int)}
theorem OwnV.nil (B : Nat) (G : Nat → Prop) (w : World) : OwnV B G w (.slice none 0 0) [] := ⟨[], World.ownsRow_nil _ _ _ _, rfl, fun i h => by cases h⟩
theorem OwnV.form (h : OwnV B G w v L) : ∃ A c, v = .slice A L.length c := by
  obtain ⟨xs, h1, _⟩ := h
  exact own_form h1
theorem OwnV.lt (h : OwnV B G w v L) {k : Nat} (hk : v.ownBlock = some k) : B ≤ k ∧ k < w.heap.size := by
  obtain ⟨xs, h1, _⟩ := h
  exact World.ownsRow.lt h1 k hk
theorem OwnV.ne (h : OwnV B G w v L) {g : Nat} {t : TypeId} {cs : Array Value} (hb : Blk w g t cs) (ht : 22 ≠ t) : v.ownBlock ≠ some g := by
  obtain ⟨xs, h1, _⟩ := h
  exact own_ne h1 hb ht
theorem OwnV.fr {F : Nat → Prop} (h : OwnV B G w v L) (hf : Fr F w w') (hF : ∀ k, v.ownBlock = some k → ¬ F k) (hF0 : ∀ k, G k → ¬ F k) : OwnV B G w' v L := by
  obtain ⟨xs, h1, h2, h3⟩ := h
  exact ⟨xs, own_fr h1 hf hF, h2, fun i hi hi' => ⟨(h3 i hi hi').1.fr0 hf (fun k hk h0 => hF0 k ((h3 i hi hi').2 k hk h0)), (h3 i hi hi').2⟩⟩
theorem OwnV.below (h : OwnV B G w v L) (hG : ∀ k, G k → k < w.heap.size) (hb : Below w.heap.size w w') : OwnV B G w' v L :=
  h.fr (Fr.of_below hb) (fun k hk f => by have := (h.lt hk).2; omega) (fun k hk f => by have := hG k hk; omega)
theorem OwnV.txs {A : Option Addr} {n c : Nat} (h : OwnV B G w (.slice A n c) L) : ∃ xs, TxsV w A xs L := by
  obtain ⟨xs, h1, h2, h3⟩ := h
  refine ⟨xs, h2, fun h0 => ?_, fun i hi hi' => (h3 i hi hi').1⟩
  have hL : 0 < L.length := by omega
  obtain ⟨h4, ⟨h5, h6⟩ | ⟨g, cap, cur, h5, hg, hh, hn, _, hs, ht⟩⟩ := h1
  · omega
  · simp only [Value.slice.injEq] at h5
    refine ⟨g, 0, h5.1, (Array.getElem?_eq_some_iff.1 hh).1, fun j x hx => ?_⟩
    rw [cell_of_row w g (0 + j) cur _ (0, 0) hh, Nat.zero_add]
    have hj : j < xs.length := (List.getElem?_eq_some_iff.1 hx).1
    rw [← ht, List.getElem?_take] at hx
    simp only [show j < L.length * 1 by omega, if_true, Array.getElem?_toList] at hx
    exact hx
/-- One text more. -/
theorem OwnV.app {ty : TypeId} (h : OwnV B G w v L) (hG : ∀ k, G k → k < B) {x : Value} {l : List Int} (hx : TxV w x l) (hxG : ∀ k, x.ownBlock = some k → 0 < l.length → G k) (hlen : L.length + 1 ≤ 1000000000) (hB : B ≤ w.heap.size) :
    ∃ v' w', (APs #[33, 33] ty #[v, .slice (some ⟨w.heap.size, 0, none⟩) 1 1]).run Tryd.prog (w.alloc (.cells #[x] 22)) = .ok v' w' ∧ OwnV B G w' v' (L ++ [l]) ∧ Fr (fun k => v.ownBlock = some k) w w' ∧ Foot w v v' := by
  obtain ⟨xs, h1, h2, h3⟩ := h
  obtain ⟨v', w', e1, e2, e3, e4⟩ := appT (ty := ty) h1 [x] (by intro u hu; simp at hu; subst hu; exact hx.one) (by simpa using hlen) hB
  have hk : ∀ y l, TxV w y l → (∀ k, y.ownBlock = some k → 0 < l.length → G k) → TxV w' y l := fun y l hy hyB => hy.fr0 e3 (fun k hk h0 f => by
    have := (World.ownsRow.lt h1 k f).1
    have := hG k (hyB k hk h0)
    omega)
  refine ⟨v', w', e1, ⟨xs ++ [x], by simpa using e2, by simp [h2], fun i hi hi' => ?_⟩, e3, e4⟩
  by_cases hlt : i < xs.length
  · rw [List.getElem_append_left hlt, List.getElem_append_left (by omega)]
    exact ⟨hk _ _ (h3 i hlt (by omega)).1 (h3 i hlt (by omega)).2, (h3 i hlt (by omega)).2⟩
  · have : i = xs.length := by simp at hi; omega
    subst this
    simp only [List.getElem_append_right (Nat.le_refl _), Nat.sub_self, List.getElem_cons_zero]
    simp only [h2, List.getElem_append_right (Nat.le_refl _), Nat.sub_self, List.getElem_cons_zero]
    exact ⟨hk _ _ hx hxG, hxG⟩
end

/-- The block of an address. -/
def InA (A : Option Addr) (k : Nat) : Prop := ∃ a, A = some a ∧ a.block = k

theorem st49_new (X : World) (a b c : Int) (A : Option Addr) (n d : Nat) :
    (STs 49 (.pointer (some ⟨X.heap.size, 0, none⟩)) (.agg (recL a b c (.slice A n d)).toArray)).run Tryd.prog (X.alloc (.cells (recL 0 0 0 (.slice none 0 0)).toArray 49)) = .ok () (X.alloc (.cells (recL a b c (.slice A n d)).toArray 49)) :=
  STs_new i49 X _ rfl _ rfl (recL_one _ _ _ _ _ _)

theorem rec_parts {X : World} {g : Nat} {a b c : Int} {v : Value} (h : Blk X g 49 (recL a b c v).toArray) :
    X.cell? ⟨g, 0, none⟩ = some (.int .i64 a) ∧ X.cell? ⟨g, 1, none⟩ = some (.int .i64 b) ∧ X.cell? ⟨g, 2, none⟩ = some (.int .i64 c) ∧ X.cell? ⟨g, 3, none⟩ = some v :=
  ⟨(h.cell 0).trans rfl, (h.cell 1).trans rfl, (h.cell 2).trans rfl, (h.cell 3).trans rfl⟩

/-- What is behind the document's scan. -/
def RScanPost (n₀ : Nat) (A : Option Addr) (R : List (List Int) × Nat) (e : Ending) (w' : World) : Prop :=
  ∃ v, e = .returned (.tuple #[v, .int .i64 (R.2 : Int)]) ∧ OwnV n₀ (InA A) w' v R.1

section
attribute [local go_sem ↓] sle_of ld49 st49 al49 bd49 apt33_of
attribute [local go_sem] al49_new st49_new

set_option maxHeartbeats 8000000 in
theorem rscan_any (T : Nat) (A : Option Addr) (c : Nat) (b : List Int) (w : World) (hb : Byt w A b) (hc : b.length ≤ c) (hl : b.length ≤ 80000000) (hA : ∀ a, A = some a → a.block < w.heap.size) :
    Calls Tryd.prog 26 #[.slice A b.length c, .int .i64 (T : Int)] w fun e w' => RScanPost w.heap.size A (scanAll T b) e w' ∧ Below w.heap.size w w' := by
  obtain ⟨N, hN⟩ : ∃ N, b.length = N := ⟨_, rfl⟩
  rw [hN] at hc hl ⊢
  have HB := Lib.hid hb
  have HN := Lib.hid hN
  have HG := Lib.hid (fun (k : Nat) (h : InA A k) => (by obtain ⟨a, e1, e2⟩ := h; rw [← e2]; exact hA a e1 : k < w.heap.size))
  clear hb hN hA
  go_enter Tryd.func26, Tryd.ntmps26
  go_wp2_with fail
  go_loopg [6, 7] N (fun k v t wr => ∃ (u m : Nat) (done : List (List Int)) (A1 : Option Addr) (c1 : Nat), u + k = N ∧ t = .int .i64 (u : Int) ∧ m = done.length ∧ v = .slice A1 m c1 ∧ ScanAt T b u done ∧ OwnV w.heap.size (InA A) wr v done ∧ Below w.heap.size w wr)
  case atStart => exact ⟨0, 0, [], none, 0, by omega, rfl, rfl, rfl, ScanAt.start _ _, OwnV.nil _ _ _, Below.refl _ _⟩
  case round =>
    obtain ⟨u, m, done, A1, c1, hu, rfl, hm, rfl, hat, ho, hbl⟩ := hrel
    have hu64 : 64 * u ≤ N := by have := hat.1; rw [HN.out] at this; exact this
    have hmb : m ≤ u := by rw [hm]; exact hat.2.1
    have hby := HB.out.below hbl
    obtain ⟨A2, hsl, hy2, hb2, hn2⟩ := part8u hby c (64 * u) N (some (.int .i64 (64 * (u : Int)))) none hu64 (by rw [HN.out]; exact Nat.le_refl _) (by rw [HN.out]; exact hc) (.inr ⟨_, _, rfl, by omega⟩) (.inl ⟨rfl, HN.out.symm⟩)
    rw [HN.out] at hsl
    have hd : (b.drop (64 * u)).take (N - 64 * u) = b.drop (64 * u) := List.take_of_length_le (by rw [List.length_drop, HN.out]; exact Nat.le_refl _)
    rw [hd] at hy2
    have hdl : (b.drop (64 * u)).length = N - 64 * u := by rw [List.length_drop, HN.out]
    obtain ⟨n2, hn2'⟩ : ∃ n, N - 64 * u = n := ⟨_, rfl⟩
    obtain ⟨c2, hc2⟩ : ∃ x, c - 64 * u = x := ⟨_, rfl⟩
    rw [hn2', hc2] at hsl
    rw [hn2'] at hdl
    have hrd := rread_any A2 c2 (b.drop (64 * u)) wr hy2 (by rw [hdl]; omega) (by rw [hdl]; omega)
    rw [hdl] at hrd
    have hsl1 := hsl wr
    have hA2 : ∀ a, A2 = some a → ∃ a', A = some a' ∧ a'.block = a.block := fun a ha => by
      obtain ⟨a', e1, e2⟩ := hb2 a ha
      exact ⟨a', e1, e2.symm⟩
    have HRD := Lib.hid hrd
    have HA2 := Lib.hid hA2
    have HAT := Lib.hid hat
    have HO := Lib.hid ho
    have HBL := Lib.hid hbl
    have HU := Lib.hid hu
    have HM := Lib.hid hm
    clear hsl hy2 hb2 hn2 hd hdl hn2' hc2 hrd hA2 hat ho hbl hu hm hby
    go_wp2_with fail
    with_reducible refine HRD.out.mono ?_
    rintro e w1 ⟨hp, b1⟩
    have hB1 := HBL.out.trans (b1.mono HBL.out.size)
    cases hR : readP (b.drop (64 * u)) with
    | none =>
      rw [hR] at hp
      obtain rfl : e = .returned (.tuple #[.agg (recL 0 0 0 (.slice none 0 0)).toArray, .bool false]) := hp
      have hst : scanAll T b = (done, u) := HAT.out.stop (fun r hr => by rw [hR] at hr; cases hr)
      have ho1 := HO.out.below (fun k hk => Nat.lt_of_lt_of_le (HG.out k hk) HBL.out.size) b1
      have hB2 := hB1.alloc hB1.size (.cells (recL 0 0 0 (.slice none 0 0)).toArray 49)
      have ho2 := ho1.below (fun k hk => Nat.lt_of_lt_of_le (HG.out k hk) hB1.size) ((Below.refl _ w1).alloc (Nat.le_refl _) (.cells (recL 0 0 0 (.slice none 0 0)).toArray 49))
      have HST := Lib.hid hst
      have HO2 := Lib.hid ho2
      have HB2 := Lib.hid hB2
      clear hst ho1 ho2 hB1 hB2 b1 hR
      go_wp2_with fail
      go_ret2
      exact ⟨⟨_, by rw [HST.out]; rfl, by rw [HST.out]; exact HO2.out⟩, HB2.out⟩
    | some r =>
      rw [hR] at hp
      obtain ⟨A3, c3, rfl, hp3⟩ := (hp : RReadPost w1 A2 (some r) e)
      have hsz := readP_size hR
      rw [List.length_drop, HN.out] at hsz
      obtain ⟨nb, hnb⟩ : ∃ n, r.b.length = n := ⟨_, rfl⟩
      rw [hnb]
      have ho1 := HO.out.below (fun k hk => Nat.lt_of_lt_of_le (HG.out k hk) HBL.out.size) b1
      have hB2 := hB1.alloc hB1.size (.cells (recL r.t r.n r.size (.slice A3 nb c3)).toArray 49)
      have hal0 := (Below.refl _ w1).alloc (Nat.le_refl _) (.cells (recL r.t r.n r.size (.slice A3 nb c3)).toArray 49)
      have ho2 := ho1.below (fun k hk => Nat.lt_of_lt_of_le (HG.out k hk) hB1.size) hal0
      have hbk := Blk.new w1 49 (recL r.t r.n r.size (.slice A3 nb c3)).toArray
      have hp4 := hp3.below hal0
      obtain ⟨X, hX⟩ : ∃ X, w1.alloc (.cells (recL r.t r.n r.size (.slice A3 nb c3)).toArray 49) = X := ⟨_, rfl⟩
      rw [hX] at ho2 hB2 hbk hp4
      have hXs : w1.heap.size < X.heap.size := hbk.lt
      obtain ⟨k0, k1, k2, k3⟩ := rec_parts hbk
      have HX := Lib.hid hX
      have HBK := Lib.hid hbk
      have HO2 := Lib.hid ho2
      have HB2 := Lib.hid hB2
      have HNB := Lib.hid hnb
      have HP4 := Lib.hid hp4
      have HRR := Lib.hid hR
      clear ho1 ho2 hB2 hal0 hbk hp3 hp4 hnb b1 hR HRD HBL HO hX
      go_upto_region 4 with fail
      rw [HX.out]
      by_cases ht : r.t = T
      · have htb : (((r.t : Nat) : Int) != (T : Int)) = false := by simp [ht]
        by_cases hn : r.n = m
        · have hnb : (((r.n : Nat) : Int) != (m : Int)) = false := by simp [hn]
          have hat2 := HAT.out.more HRR.out ht (by rw [hn]; exact HM.out)
          have HAT2 := Lib.hid hat2
          clear ht hn hat2
          have htx : TxV X (.slice A3 nb c3) r.b := ⟨A3, c3, by rw [HNB.out], HP4.out.byt, HP4.out.nul⟩
          have hxB : ∀ k, (Value.slice A3 nb c3).ownBlock = some k → 0 < r.b.length → InA A k := fun k hk _ => by
            cases A3 with
            | none => cases hk
            | some a =>
              obtain ⟨a', e1, e2⟩ := HP4.out.blk a rfl
              obtain ⟨a2, e3, e4⟩ := HA2.out a' e1
              have e5 : a.block = k := by simpa [Value.ownBlock] using hk
              exact ⟨a2, e3, by omega⟩
          obtain ⟨v', w2, hap, ho', hf', _⟩ := HO2.out.app (ty := 33) HG.out htx hxB (by rw [← HM.out]; omega) HB2.out.size
          obtain ⟨A6, c6, rfl⟩ := ho'.form
          have hl' : (done ++ [r.b]).length = m + 1 := by rw [List.length_append, ← HM.out]; rfl
          rw [hl'] at hap ho'
          have hB3 := HB2.out.trans (hf'.below HB2.out.size (fun k hk e => by have := (HO2.out.lt e).1; omega))
          have k2' := (hf'.cell (p := ⟨w1.heap.size, 2, none⟩) hXs (fun e => by
            obtain ⟨xs, h1, _⟩ := HO2.out
            exact own_ne h1 HBK.out (by decide) e)).trans k2
          have HO3 := Lib.hid ho'
          have HB3 := Lib.hid hB3
          have HL' := Lib.hid hl'
          clear htx hxB ho' hB3 hf' hl'
          go_wp2_with fail
          have hus : IntKind.i64.wrap ((u : Int) + (r.size : Int)) = ((u + r.size : Nat) : Int) := by rw [IntKind.wrap_i64]; omega
          go_roundg (N - (u + r.size))
          case measure => have := HU.out; omega
          case rel => exact ⟨u + r.size, m + 1, _, _, _, by omega, by go_num, HL'.out.symm, rfl, HAT2.out, HO3.out, HB3.out⟩
        · have hnb : (((r.n : Nat) : Int) != (m : Int)) = true := by simp; omega
          have hst : scanAll T b = (done, u) := HAT.out.stop (fun r' hr => by
            rw [HRR.out] at hr
            cases hr
            rintro ⟨_, h2⟩
            exact hn (by rw [h2]; exact HM.out.symm))
          have HST := Lib.hid hst
          clear hst ht hn
          go_wp2_with fail
          go_ret2
          exact ⟨⟨_, by rw [HST.out]; rfl, by rw [HST.out]; exact HO2.out⟩, HB2.out⟩
      · have htb : (((r.t : Nat) : Int) != (T : Int)) = true := by simp; omega
        have hst : scanAll T b = (done, u) := HAT.out.stop (fun r' hr => by
          rw [HRR.out] at hr
          cases hr
          rintro ⟨h1, _⟩
          exact ht h1)
        have HST := Lib.hid hst
        clear hst ht
        go_wp2_with fail
        go_ret2
        exact ⟨⟨_, by rw [HST.out]; rfl, by rw [HST.out]; exact HO2.out⟩, HB2.out⟩

set_option maxHeartbeats 8000000 in
/-- A turn below 0 has no records. -/
theorem rscan_neg (T : Int) (hT : T < 0) (A : Option Addr) (c : Nat) (b : List Int) (w : World) (hb : Byt w A b) (hc : b.length ≤ c) (hl : b.length ≤ 80000000) :
    Calls Tryd.prog 26 #[.slice A b.length c, .int .i64 T] w fun e w' => RScanPost w.heap.size A ([], 0) e w' ∧ Below w.heap.size w w' := by
  obtain ⟨N, hN⟩ : ∃ N, b.length = N := ⟨_, rfl⟩
  obtain ⟨A2, hsl, hy2, hb2, hn2⟩ := part8u hb c 0 b.length (some (.int .i64 0)) none (by omega) (Nat.le_refl _) hc (.inr ⟨_, _, rfl, by omega⟩) (.inl ⟨rfl, rfl⟩)
  have hd : (b.drop 0).take (b.length - 0) = b := by simp
  rw [hd] at hy2
  rw [hN, Nat.sub_zero, Nat.sub_zero] at hsl
  have hsl1 := hsl w
  have hrd := rread_any A2 c b w hy2 hc hl
  rw [hN] at hc hl hrd ⊢
  have HRD := Lib.hid hrd
  clear hb hN hsl hrd hy2 hb2 hn2 hd
  go_enter Tryd.func26, Tryd.ntmps26
  go_wp2_with fail
  go_loopg [6, 7] 0 (fun k v t wr => t = .int .i64 0 ∧ v = .slice none 0 0 ∧ wr = w)
  case atStart => exact ⟨rfl, rfl, rfl⟩
  case round =>
    obtain ⟨rfl, rfl, rfl⟩ := hrel
    go_wp2_with fail
    with_reducible refine HRD.out.mono ?_
    rintro e w1 ⟨hp, b1⟩
    cases hR : readP b with
    | none =>
      rw [hR] at hp
      obtain rfl : e = .returned (.tuple #[.agg (recL 0 0 0 (.slice none 0 0)).toArray, .bool false]) := hp
      have HB2 := Lib.hid (b1.alloc b1.size (.cells (recL 0 0 0 (.slice none 0 0)).toArray 49))
      clear b1 hR
      go_wp2_with fail
      go_ret2
      exact ⟨⟨_, rfl, OwnV.nil _ _ _⟩, HB2.out⟩
    | some r =>
      rw [hR] at hp
      obtain ⟨A3, c3, rfl, hp3⟩ := (hp : RReadPost w1 A2 (some r) e)
      have hB2 := b1.alloc b1.size (.cells (recL r.t r.n r.size (.slice A3 r.b.length c3)).toArray 49)
      have hbk := Blk.new w1 49 (recL r.t r.n r.size (.slice A3 r.b.length c3)).toArray
      obtain ⟨nb, hnb⟩ : ∃ n, r.b.length = n := ⟨_, rfl⟩
      rw [hnb] at hB2 hbk ⊢
      obtain ⟨X, hX⟩ : ∃ X, w1.alloc (.cells (recL r.t r.n r.size (.slice A3 nb c3)).toArray 49) = X := ⟨_, rfl⟩
      rw [hX] at hB2 hbk
      obtain ⟨k0, k1, k2, k3⟩ := rec_parts hbk
      have HB2 := Lib.hid hB2
      have HX := Lib.hid hX
      have htb : (((r.t : Nat) : Int) != T) = true := by simp; omega
      clear b1 hR hp3 hB2 hbk hnb hX
      go_upto_region 4 with fail
      rw [HX.out]
      go_wp2_with fail
      go_ret2
      exact ⟨⟨_, rfl, OwnV.nil _ _ _⟩, HB2.out⟩
end

theorem TxsV.at_ {w : World} {A : Option Addr} {xs : List Value} {L : List (List Int)} (h : TxsV w A xs L) {i : Nat} (hi : i < L.length) :
    ∃ g o B d, A = some ⟨g, o, none⟩ ∧ w.cell? ⟨g, o + i, none⟩ = some (.slice B (L.getD i []).length d) ∧ Byt w B (L.getD i []) := by
  have hx : i < xs.length := by rw [h.len]; exact hi
  obtain ⟨g, o, rfl, _, hc⟩ := h.cell (by omega)
  obtain ⟨B, d, e, hb, _⟩ := h.txt i hx hi
  have hL : L.getD i [] = L[i] := by simp [List.getD, hi]
  rw [hL]
  exact ⟨g, o, B, d, rfl, by rw [hc i xs[i] (by simp [hx]), e], hb⟩

section
set_option maxHeartbeats 8000000 in
theorem rsame_any (A1 : Option Addr) (c1 : Nat) (A2 : Option Addr) (c2 : Nat) (xs1 xs2 : List Value) (L1 L2 : List (List Int)) (w : World) (h1 : TxsV w A1 xs1 L1) (h2 : TxsV w A2 xs2 L2) (hn1 : L1.length ≤ 1000000000) (_hn2 : L2.length ≤ 1000000000)
    (hb1 : ∀ l ∈ L1, l.length ≤ 1000000000) (hb2 : ∀ l ∈ L2, l.length ≤ 1000000000) :
    Calls Tryd.prog 28 #[.slice A1 L1.length c1, .slice A2 L2.length c2] w fun e w' => e = .returned (.bool (decide (L1 = L2))) ∧ ∃ m, w' = w.drewN m := by
  by_cases hl : L1.length = L2.length
  · obtain ⟨n, hn⟩ : ∃ n, L1.length = n := ⟨_, rfl⟩
    rw [hn] at hl hn1
    rw [← hl, hn]
    have H1 := Lib.hid h1
    have H2 := Lib.hid h2
    have HN1 := Lib.hid hn
    have HN2 := Lib.hid hl.symm
    have HB1 := Lib.hid hb1
    have HB2 := Lib.hid hb2
    clear h1 h2 hn hl hb1 hb2
    go_enter Tryd.func28, Tryd.ntmps28
    go_wp2_with fail
    go_loopg [5] n (fun k t wr => ∃ i : Nat, i + k = n ∧ t = .int .i64 (i : Int) ∧ (∀ j, j < i → L1.getD j [] = L2.getD j []) ∧ ∃ q, wr = w.drewN q)
    case atStart => exact ⟨0, by omega, rfl, fun j hj => by omega, 0, rfl⟩
    case round =>
      obtain ⟨i, hi, rfl, heq, q, rfl⟩ := hrel
      have HEQ := Lib.hid heq
      have HI := Lib.hid hi
      clear heq hi
      by_cases hin : i < n
      · have hinI : (i : Int) < (n : Int) := by omega
        obtain ⟨g1, o1, B1, d1, rfl, k1, y1⟩ := H1.out.at_ (i := i) (by rw [HN1.out]; exact hin)
        obtain ⟨g2, o2, B2, d2, rfl, k2, y2⟩ := H2.out.at_ (i := i) (by rw [HN2.out]; exact hin)
        have hm1 : (L1.getD i []).length ≤ 1000000000 := HB1.out _ (by
          have : i < L1.length := by rw [HN1.out]; exact hin
          simp [List.getD, this])
        obtain ⟨l1, hl1⟩ : ∃ l, L1.getD i [] = l := ⟨_, rfl⟩
        obtain ⟨l2, hl2⟩ : ∃ l, L2.getD i [] = l := ⟨_, rfl⟩
        rw [hl1] at k1 y1 hm1
        rw [hl2] at k2 y2
        obtain ⟨m1, e1⟩ : ∃ m, l1.length = m := ⟨_, rfl⟩
        obtain ⟨m2, e2⟩ : ∃ m, l2.length = m := ⟨_, rfl⟩
        rw [e1] at k1 hm1
        rw [e2] at k2
        have Y1 := Lib.hid y1
        have Y2 := Lib.hid y2
        have E1 := Lib.hid e1
        have E2 := Lib.hid e2
        have HL1 := Lib.hid hl1
        have HL2 := Lib.hid hl2
        clear y1 y2 e1 e2 hl1 hl2
        by_cases hm : m1 = m2
        · subst hm
          have hmb : ((m1 : Int) != (m1 : Int)) = false := by simp
          go_wp2_with fail
          go_quiet (fail)
          all_goals
            go_wp2_with fail
            go_loopg [6] m1 (fun k t wr => ∃ j : Nat, j + k = m1 ∧ t = .int .i64 (j : Int) ∧ (∀ p, p < j → l1.getD p 0 = l2.getD p 0) ∧ ∃ q, wr = w.drewN q)
            case atStart => exact ⟨0, by omega, rfl, fun j hj => by omega, _, (by first | rfl | exact World.drewN_drewN _ _ _)⟩
            case round =>
              obtain ⟨j, hj, rfl, hjq, q2, rfl⟩ := hrel
              have HJQ := Lib.hid hjq
              have HJ := Lib.hid hj
              clear hjq hj
              by_cases hjm : j < m1
              · have hjI : (j : Int) < (m1 : Int) := by omega
                obtain ⟨gb1, ob1, rfl, _, hc1⟩ := Y1.out.cell (by rw [E1.out]; omega)
                obtain ⟨gb2, ob2, rfl, _, hc2⟩ := Y2.out.cell (by rw [E2.out]; omega)
                have s1 := hc1 j (l1.getD j 0) (by simp [List.getD, show j < l1.length by rw [E1.out]; exact hjm])
                have s2 := hc2 j (l2.getD j 0) (by simp [List.getD, show j < l2.length by rw [E2.out]; exact hjm])
                obtain ⟨x, hx⟩ : ∃ x, l1.getD j 0 = x := ⟨_, rfl⟩
                obtain ⟨y, hy⟩ : ∃ y, l2.getD j 0 = y := ⟨_, rfl⟩
                rw [hx] at s1
                rw [hy] at s2
                have HX := Lib.hid hx
                have HYY := Lib.hid hy
                clear hc1 hc2 hx hy
                by_cases hxy : x = y
                · have hxyb : (x != y) = false := by simp [hxy]
                  have HXY := Lib.hid hxy
                  clear hxy
                  go_wp2_with fail
                  go_quiet (fail)
                  all_goals
                    go_wp2_with fail
                    go_roundg (m1 - (j + 1))
                    case measure => have := HJ.out; omega
                    case rel => exact ⟨j + 1, by omega, by go_num, fun p hp => by
                      by_cases e : p = j
                      · subst e; rw [HX.out, HYY.out]; exact HXY.out
                      · exact HJQ.out p (by omega), _, (by first | rfl | exact World.drewN_drewN _ _ _)⟩
                · have hxyb : (x != y) = true := by simp [hxy]
                  have hne : decide (L1 = L2) = false := decide_eq_false (fun e => by
                    subst e
                    have h1 := HL1.out.symm.trans HL2.out
                    subst h1
                    exact hxy (HX.out.symm.trans HYY.out))
                  have HNE := Lib.hid hne
                  clear hne hxy
                  go_wp2_with fail
                  go_quiet (fail)
                  all_goals
                    go_wp2_with fail
                    go_ret
                    exact ⟨by rw [HNE.out]; rfl, _, (by first | rfl | exact World.drewN_drewN _ _ _)⟩
              · have hjI : ¬ (j : Int) < (m1 : Int) := by omega
                have hll : l1 = l2 := List.ext_getElem (by rw [E1.out, E2.out]) (fun p hp1 hp2 => by
                  have := HJQ.out p (by have := E1.out; have := HJ.out; omega)
                  simpa [List.getD, hp1, hp2] using this)
                have HLL := Lib.hid hll
                clear hll
                go_wp2_with fail
                go_roundg (n - (i + 1))
                case measure => have := HI.out; omega
                case rel => exact ⟨i + 1, by omega, by go_num, fun p hp => by
                  by_cases e : p = i
                  · subst e; rw [HL1.out, HL2.out]; exact HLL.out
                  · exact HEQ.out p (by omega), _, rfl⟩
        · have hmb : ((m1 : Int) != (m2 : Int)) = true := by simp; omega
          have hne : decide (L1 = L2) = false := decide_eq_false (fun e => by
            subst e
            have h1 := HL1.out.symm.trans HL2.out
            subst h1
            exact hm (E1.out.symm.trans E2.out))
          have HNE := Lib.hid hne
          clear hne hm
          go_wp2_with fail
          go_quiet (fail)
          all_goals
            go_wp2_with fail
            go_ret
            exact ⟨by rw [HNE.out]; rfl, _, (by first | rfl | exact World.drewN_drewN _ _ _)⟩
      · have hinI : ¬ (i : Int) < (n : Int) := by omega
        have heqq : decide (L1 = L2) = true := decide_eq_true (List.ext_getElem (by rw [HN1.out, HN2.out]) (fun p hp1 hp2 => by
          have := HEQ.out p (by have := HN1.out; have := HI.out; omega)
          simpa [List.getD, hp1, hp2] using this))
        have HQ := Lib.hid heqq
        clear heqq
        go_wp2_with fail
        go_ret
        exact ⟨by rw [HQ.out]; rfl, _, rfl⟩
  · have hlb : ((L1.length : Int) != (L2.length : Int)) = true := by simp; omega
    have hne : decide (L1 = L2) = false := decide_eq_false (fun e => hl (by rw [e]))
    rw [hne]
    clear hne hl
    go_enter Tryd.func28, Tryd.ntmps28
    go_wp2_with fail
    go_ret
    exact ⟨rfl, 0, rfl⟩
end

theorem Own8.nul8 {B n c : Nat} {w : World} {l : List Int} (h : Own8 B w (.slice none n c) l) : c = 0 := by
  obtain ⟨_, ⟨h2, _⟩ | ⟨g, cap, cur, h2, _⟩⟩ := h
  · simp only [Value.slice.injEq] at h2
    exact h2.2.2
  · simp at h2

/-! ### What is read lies in what was there -/
theorem takeNumP_sub {most : Nat} {l r : List Int} {v : Nat} (h : takeNumP most l = some (v, r)) : r.Sublist l := by
  cases l with
  | nil => simp [takeNumP] at h
  | cons k tl =>
    simp only [takeNumP] at h
    split at h
    · cases h
    · simp only [Option.some.injEq, Prod.mk.injEq] at h
      obtain ⟨_, rfl⟩ := h
      exact (List.drop_sublist _ _).trans (List.sublist_cons_self _ _)
theorem takeTextP_sub {most : Nat} {l t r : List Int} (h : takeTextP most l = some (t, r)) : t.Sublist l := by
  unfold takeTextP at h
  cases hR : takeNumP most l with
  | none => rw [hR] at h; cases h
  | some vr =>
    obtain ⟨v, r'⟩ := vr
    rw [hR] at h
    simp only at h
    split at h
    · cases h
    · simp only [Option.some.injEq, Prod.mk.injEq] at h
      obtain ⟨rfl, _⟩ := h
      exact (List.take_sublist _ _).trans (takeNumP_sub hR)
theorem eyeP_sub {f x : List Int} {long t n : Nat} (h : eyeP f long = some (t, n, x)) : x.Sublist f := by
  unfold eyeP at h
  cases h1 : takeNumP mostP f with
  | none => rw [h1] at h; cases h
  | some vr =>
    obtain ⟨v, r⟩ := vr
    rw [h1] at h
    simp only at h
    cases h2 : takeNumP mostP r with
    | none => rw [h2] at h; cases h
    | some vr2 =>
      obtain ⟨v2, r2⟩ := vr2
      rw [h2] at h
      simp only at h
      cases h3 : takeTextP long r2 with
      | none => rw [h3] at h; cases h
      | some xr =>
        obtain ⟨y, r3⟩ := xr
        rw [h3] at h
        simp only at h
        split at h
        · simp only [Option.some.injEq, Prod.mk.injEq] at h
          obtain ⟨_, _, rfl⟩ := h
          exact ((takeTextP_sub h3).trans (takeNumP_sub h2)).trans (takeNumP_sub h1)
        · cases h
theorem readP_sub {b : List Int} {r : RecP} (h : readP b = some r) : r.b.Sublist b := by
  unfold readP at h
  split at h
  · cases h
  split at h
  · cases h
  split at h
  · cases h
  cases he : eyeP ((b.drop 12).take (word4P b)) (word4P b) with
  | none => rw [he] at h; cases h
  | some x =>
    obtain ⟨t, n, y⟩ := x
    rw [he] at h
    simp only [Option.some.injEq] at h
    subst h
    exact ((eyeP_sub he).trans (List.take_sublist _ _)).trans (List.drop_sublist _ _)
theorem scanP_sub (t : Nat) : ∀ (k : Nat) (b : List Int) (n : Nat), ∀ l ∈ (scanP t k b n).1, l.Sublist b
  | 0, b, n => by simp [scanP]
  | k + 1, b, n => by
    intro l hl
    simp only [scanP] at hl
    cases hr : readP b with
    | none => rw [hr] at hl; cases hl
    | some r =>
      rw [hr] at hl
      simp only at hl
      split at hl
      · rcases List.mem_cons.1 hl with rfl | hl
        · exact readP_sub hr
        · exact (scanP_sub t k _ _ l hl).trans (List.drop_sublist _ _)
      · cases hl
theorem scanAll_sub (t : Nat) (b : List Int) : ∀ l ∈ (scanAll t b).1, l.Sublist b := scanP_sub t _ b 0
theorem scanAll_bdR {t : Nat} {b : List Int} (hb : ∀ x ∈ b, 0 ≤ x ∧ x ≤ 255) : ∀ l ∈ (scanAll t b).1, (∀ x ∈ l, 0 ≤ x ∧ x ≤ 255) ∧ l.length ≤ b.length :=
  fun l hl => ⟨fun x hx => hb x ((scanAll_sub t b l hl).subset hx), (scanAll_sub t b l hl).length_le⟩

/-- What is one's own may be read. -/
theorem OwnT.txs {B n c : Nat} {w : World} {A : Option Addr} {L : List (List Int)} (h : OwnT B w (.slice A n c) L) (hb : ∀ l ∈ L, ∀ x ∈ l, 0 ≤ x ∧ x ≤ 255) : ∃ xs, TxsV w A xs L := by
  obtain ⟨xs, h1, h2, h3⟩ := h
  have h4 : OwnV B (fun _ => True) w (.slice A n c) L := ⟨xs, h1, h2, fun i hi hi' => ⟨?_, fun _ _ _ => trivial⟩⟩
  · exact h4.txs
  · have ho := h3 i hi hi'
    obtain ⟨A', c', e, hy, _, _⟩ := ho.byt (hb _ (List.getElem_mem hi'))
    exact ⟨A', c', e, hy, fun e2 => by subst e2; rw [e] at ho; exact ho.nul8⟩

end Go.Proofs.YtohadeijmmmcdaaDoor
