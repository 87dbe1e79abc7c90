/-
  ChestKeeps: where it begins, what is written down, and the chest that is opened anew.
-/
import Derived.Test.YtohadeijmmmcdaaDoorKpT
namespace Go.Proofs.YtohadeijmmmcdaaDoor
open Go Go.RowKit Machine
set_option maxRecDepth 100000

theorem KInv.first : ∃ (x : CS) (s : SS) (T : DS), copenR (DS.new 24) = (0, x, s, T) ∧ x.gone = false ∧ T.waits = [] ∧ KInv 1 x s T 0 1 [[]] [[]] := by
  have nl : (DS.new 24).sure.length = 24 := by simp [DS.new]
  have hok : (DS.new 24).Ok := DS.new_ok (n := 24) (by omega) (by omega)
  obtain ⟨c1, c2, c3⟩ := ChOk.fresh (S := DS.new 24) hok (DS.new_good 24) (by rw [nl]; omega) (by rw [new_find]; simp)
  have hq0 : KQ 24 0 1 [] 1 (DS.new 24) := by
    refine ⟨hok, nl, ⟨fun sd hs => ?_, fun x hx => by cases hx⟩, Front.nil _ 1 (by omega)⟩
    have hz : (DS.new 24).sure.getD (sd * ((DS.new 24).sure.length / 2)) [] = Z64 := by
      rw [nl, Z64_eq]
      unfold DS.new
      have h2 : sd = 0 ∨ sd = 1 := by omega
      rcases h2 with rfl | rfl <;> simp
    rw [hz]
    exact HdW.zero sd 1
  have hqb : KQ 24 0 1 [] 1 (beginR (DS.new 24) 0 1 []).2.2 := by
    refine beginR_q (KQ 24 0 1 [] 1) ?_ (fun T' hT' => hT'.sync (by omega)) ?_ hq0
    · intro T' j hj hT'
      exact hT'.write (fun v hv => by rw [Z64_eq] at hv; rw [List.eq_of_mem_replicate hv]; omega) (.inr (by simp [sizeP])) (fun sd' _ _ => HdW.zero sd' _)
    · intro he hr T' j hj hT'
      rw [recS_nil1] at hj
      obtain rfl : j = 0 := by omega
      refine hT'.write (formP_part he (fun v hv => by cases hv) (by simp) 0) (.inr (by simp [sizeP])) (fun sd' hs' e => ?_)
      rw [Nat.mul_zero, List.drop_zero]
      have h3 : sd' = 0 := by
        have h4 : sd' = 0 ∨ sd' = 1 := by omega
        rcases h4 with rfl | rfl
        · rfl
        · omega
      subst h3
      exact formP_hd (by omega) (by omega) (by omega) (by omega)
  obtain ⟨T, e1, e2, e3, e4, e5⟩ := copen_new (n := 24) (by omega) (by omega)
  have hT : (beginR (DS.new 24) 0 1 []).2.2 = T := by
    have : (copenR (DS.new 24)).2.2.2 = (beginR (DS.new 24) 0 1 []).2.2 := by
      unfold copenR
      rw [new_find]
      rfl
    rw [← this, e1]
  rw [hT] at hqb
  rw [e1] at c3
  simp only at c3
  have hf := e2.front e3
  refine ⟨_, _, T, e1, rfl, e3, ⟨hqb.front hf, by omega, Nat.le_refl _, Nat.le_refl _, by omega, by omega, by simp, ?_, fun _ => ⟨e2.good.1, by rw [DS.clear_eq e2.good]; exact c3, rfl, 1, rfl⟩, by simp, by simp⟩⟩
  simp only [sizeP, recS_nil1]
  omega

theorem apt91_of (xs : Array Value) (t : TypeId) : Builtin.append_ #[91, 91] t xs = APs #[91, 91] t xs := rfl
/-- A row of one try. -/
theorem TrV.one {B : Nat} {nv : Value} {W : World} {A : Option Addr} {d : Nat} {L : List (List Int)} (hC : ChT B W A d L) (hA : ∀ a, A = some a → 0 < L.length → nv.ownBlock ≠ some a.block) (hB : B ≤ W.heap.size) (t : Int) :
    TrV B nv (W.alloc (.cells #[.int .i64 t, .slice A L.length d] 90)) (.slice (some ⟨W.heap.size, 0, none⟩) 1 1) [(t, L)] := by
  refine ⟨[.int .i64 t, .slice A L.length d], ⟨rfl, .inr ⟨W.heap.size, 1, #[.int .i64 t, .slice A L.length d], rfl, hB, Blk.new W _ _, Nat.le_refl _, by unfold maxLen; omega, rfl, rfl⟩⟩, fun i hi => ?_⟩
  simp at hi
  subst hi
  exact ⟨A, d, rfl, rfl, hC.below ((Below.refl _ _).alloc (Nat.le_refl _) _) hB, hA⟩

/-- The try that counts. -/
structure TrC (w : World) (i n cur : Nat) (nv : Value) (gone : Bool) (v : Value) (ts : List (Int × List (List Int))) (W : World) : Prop where
  tr : TrV w.heap.size nv W v ts
  cur : ∃ h : cur < ts.length, gone = false → (ts[cur]'h).2.length = n
  len : ts.length ≤ i
  bd : ∀ x ∈ ts, 0 < x.2.length ∧ x.2.length ≤ i + 12

theorem TrC.below0 {w : World} {i n cur : Nat} {nv v : Value} {gone : Bool} {ts : List (Int × List (List Int))} {W W' : World} (h : TrC w i n cur nv gone v ts W) (hb : Below W.heap.size W W') (hs : w.heap.size ≤ W.heap.size) : TrC w i n cur nv gone v ts W' := ⟨h.tr.below hb hs, h.cur, h.len, h.bd⟩
def KpR (w : World) (p gs i r T k cur g m c : Nat) (W : World) : Prop :=
  ∃ n nv gone ts, KpS w p gs i r T k n nv gone W ∧ TrC w i n cur nv gone (.slice (some ⟨g, 0, none⟩) m c) ts W ∧ ts.length = m
theorem KpR.below {w : World} {p gs i r T k cur g m c : Nat} {W W' : World} (h : KpR w p gs i r T k cur g m c W) (hb : Below W.heap.size W W') : KpR w p gs i r T k cur g m c W' := by
  obtain ⟨n, nv, gone, ts, h1, h2, h3⟩ := h
  exact ⟨n, nv, gone, ts, h1.below hb, h2.below0 hb h1.at_.2.2, h3⟩
theorem KpR.at_ {w : World} {p gs i r T k cur g m c : Nat} {W : World} (h : KpR w p gs i r T k cur g m c W) : Below w.heap.size w W ∧ Glob W ∧ w.heap.size ≤ W.heap.size := by
  obtain ⟨n, nv, gone, ts, h1, h2, h3⟩ := h
  exact h1.at_

def PutEnd (w : World) (p gs i r T k cur g m ct : Nat) (W w3 : World) (A3 : Option Addr) (n c3 : Nat) : Prop :=
  Below W.heap.size W w3 ∧ (∃ x, w3.cell? ⟨g, cur * 2 + 1, none⟩ = some x) ∧ w3.frozen? ⟨g, cur * 2 + 1, none⟩ = false ∧ KpR w p gs i r T k cur g m ct (w3.setCell ⟨g, cur * 2 + 1, none⟩ (.slice A3 (n + 1) c3))

section
variable {w : World} {p gs i r T k n cur : Nat} {nv : Value} {gone : Bool} {v : Value} {ts : List (Int × List (List Int))} {W W' : World}
theorem TrC.below (h : TrC w i n cur nv gone v ts W) (hb : Below W.heap.size W W') (hs : w.heap.size ≤ W.heap.size) : TrC w i n cur nv gone v ts W' := ⟨h.tr.below hb hs, h.cur, h.len, h.bd⟩
theorem TrC.mono {i' : Nat} (h : TrC w i n cur nv gone v ts W) (hi : i ≤ i') : TrC w i' n cur nv gone v ts W := ⟨h.tr, h.cur, by have := h.len; omega, fun x hx => by have := h.bd x hx; omega⟩
theorem TrC.gone_ (h : TrC w i n cur nv gone v ts W) {n' : Nat} : TrC w i n' cur nv true v ts W := ⟨h.tr, by obtain ⟨hc, _⟩ := h.cur; exact ⟨hc, fun e => by cases e⟩, h.len, h.bd⟩

/-- Nothing was put. -/
theorem TrC.same {n' : Nat} {gone' : Bool} (h : TrC w i n cur nv gone v ts W) (hn : gone' = false → gone = false ∧ n' = n) : TrC w (i + 1) n' cur nv gone' v ts W := by
  refine ⟨h.tr, ?_, by have := h.len; omega, fun x hx => by have := h.bd x hx; omega⟩
  obtain ⟨hc, hcn⟩ := h.cur
  refine ⟨hc, fun e => ?_⟩
  obtain ⟨h1, h2⟩ := hn e
  rw [hcn h1, h2]
/-- A text is put behind those of the try that counts: in whatever order. -/
theorem TrC.put {n' : Nat} {gone' : Bool} (hK : KpS w p gs (i + 1) r T k n' nv gone' W) (h : TrC w i n cur nv gone v ts W) (hi : i ≤ 1000) (hn : gone' = false → gone = false ∧ n' = n + 1) {B : Option Addr} {d : Nat} {b : List Int} (hb : BytN w B d b) (hbl : b.length ≤ 300) :
    ∃ (g c : Nat) (A : Option Addr) (m d' : Nat), v = .slice (some ⟨g, 0, none⟩) ts.length c ∧ cur < ts.length ∧ W.cell? ⟨g, cur * 2 + 1, none⟩ = some (.slice A m d') ∧ g < W.heap.size ∧
      (∃ A1 c1 w1 A3 c3 w3, (APs #[33, 33] 33 #[.slice (some ⟨W.heap.size, 0, none⟩) 0 0, .slice A m d']).run Tryd.prog (W.alloc (.cells #[] 22)) = .ok (.slice A1 m c1) w1 ∧
        (APs #[33, 33] 33 #[.slice A1 m c1, .slice (some ⟨w1.heap.size, 0, none⟩) 1 1]).run Tryd.prog (w1.alloc (.cells #[.slice B b.length d] 22)) = .ok (.slice A3 (m + 1) c3) w3 ∧ Below W.heap.size W w1 ∧ PutEnd w p gs (i + 1) r T k cur g ts.length c W w3 A3 m c3) ∧
      (∃ A1 c1 w1 A3 c3 w3, (APs #[33, 33] 33 #[.slice (some ⟨W.heap.size, 0, none⟩) 0 0, .slice A m d']).run Tryd.prog ((W.alloc (.cells #[] 22)).alloc (.cells #[.slice B b.length d] 22)) = .ok (.slice A1 m c1) w1 ∧
        (APs #[33, 33] 33 #[.slice A1 m c1, .slice (some ⟨W.heap.size + 1, 0, none⟩) 1 1]).run Tryd.prog w1 = .ok (.slice A3 (m + 1) c3) w3 ∧ Below W.heap.size W w1 ∧ PutEnd w p gs (i + 1) r T k cur g ts.length c W w3 A3 m c3) ∧
      (∃ A1 c1 w1 A3 c3 w3, (APs #[33, 33] 33 #[.slice (some ⟨W.heap.size + 1, 0, none⟩) 0 0, .slice A m d']).run Tryd.prog ((W.alloc (.cells #[.slice B b.length d] 22)).alloc (.cells #[] 22)) = .ok (.slice A1 m c1) w1 ∧
        (APs #[33, 33] 33 #[.slice A1 m c1, .slice (some ⟨W.heap.size, 0, none⟩) 1 1]).run Tryd.prog w1 = .ok (.slice A3 (m + 1) c3) w3 ∧ Below W.heap.size W w1 ∧ PutEnd w p gs (i + 1) r T k cur g ts.length c W w3 A3 m c3) := by
  obtain ⟨hc, hcn⟩ := h.cur
  obtain ⟨hKb, hKg, hKs⟩ := hK.at_
  obtain ⟨g, c, rfl, hB, hg, hfz, hce⟩ := h.tr.cells (by omega)
  obtain ⟨A, d', e1, e2, e3, e4⟩ := hce cur hc
  have hbd := h.bd _ (List.getElem_mem hc)
  have hnv := hK.nvb
  rw [show 2 * cur = cur * 2 by omega] at e2
  have hE : ∀ (w3 : World) (A3 : Option Addr) (c3 : Nat), Below W.heap.size W w3 → ChT w.heap.size w3 A3 c3 ((ts[cur]).2 ++ [b]) → (∀ a, A3 = some a → W.heap.size ≤ a.block) → PutEnd w p gs (i + 1) r T k cur g ts.length c W w3 A3 (ts[cur]).2.length c3 := fun w3 A3 c3 b3 hC3 hA3 => by
    have hT3 := h.tr.below b3 hKs
    have hset := hT3.set hc (A := A3) (d := c3) (L := (ts[cur]).2 ++ [b]) hC3 (fun a ha _ e => by
      obtain ⟨_, cs, hblk⟩ := hnv _ e
      have := hblk.lt
      have := hA3 a ha
      omega)
    rw [show 2 * cur = cur * 2 by omega] at hset
    rw [List.length_append] at hset
    have hc3 : w3.cell? ⟨g, cur * 2 + 1, none⟩ = some (.slice A (ts[cur]).2.length d') := (b3.cell (p := ⟨g, cur * 2 + 1, none⟩) hg).trans e2
    refine ⟨b3, ⟨_, hc3⟩, (b3.frozen (p := ⟨g, cur * 2 + 1, none⟩) hg).trans (hfz _), ⟨n', nv, gone', ts.set cur ((ts[cur]).1, (ts[cur]).2 ++ [b]), (hK.below b3).other hset.2 (by decide) (by decide) (by decide) (by decide) (by decide) (by decide) (by decide), ⟨hset.1, ⟨by rw [List.length_set]; exact hc, fun e => ?_⟩, by rw [List.length_set]; have := h.len; omega, fun x hx => ?_⟩, List.length_set ..⟩⟩
    · obtain ⟨h1, h2⟩ := hn e
      rw [List.getElem_set_self]
      have := hcn h1
      simp
      omega
    · rcases List.mem_or_eq_of_mem_set hx with hx | rfl
      · have := h.bd x hx; omega
      · simp
        omega
  obtain ⟨⟨A1, c1, w1, A3, c3, w3, q1, q2, q3, q4, q5, q6⟩, ⟨B1, d1, v1, B3, d3, v3, r1, r2, r3, r4, r5, r6⟩, ⟨C1, f1, u1, C3, f3, u3, s1, s2, s3, s4, s5, s6⟩⟩ := app_three w.heap.size W hKs e3 (by omega) (hb.at_ hKb) (by omega) hb.nil_ hb.old
  exact ⟨g, c, A, _, d', rfl, hc, e2, hg, ⟨A1, c1, w1, A3, c3, w3, q1, q2, q3, hE _ _ _ q4 q5 q6⟩, ⟨B1, d1, v1, B3, d3, v3, r1, r2, r3, hE _ _ _ r4 r5 r6⟩, ⟨C1, f1, u1, C3, f3, u3, s1, s2, s3, hE _ _ _ s4 s5 s6⟩⟩

/-- A new try behind the others. -/
theorem TrC.more {n' i2 : Nat} {gone' : Bool} (hK : KpS w p gs i2 r T k n' nv gone' W) (h : TrC w i n cur nv gone v ts W) (hi : i ≤ 1000) (t : Int) {A : Option Addr} {d : Nat} {L : List (List Int)} (hC : ChT w.heap.size W A d L) (hA : ∀ a, A = some a → 0 < L.length → nv.ownBlock ≠ some a.block) (_hL : 0 < L.length ∧ L.length ≤ 12) :
    ∃ v' w', (APs #[91, 91] 91 #[v, .slice (some ⟨W.heap.size, 0, none⟩) 1 1]).run Tryd.prog (W.alloc (.cells #[.int .i64 t, .slice A L.length d] 90)) = .ok v' w' ∧
      TrV w.heap.size nv w' v' (ts ++ [(t, L)]) ∧ Kept w.heap.size [90] W w' ∧ KpS w p gs i2 r T k n' nv gone' w' := by
  have hs := hK.at_.2.2
  obtain ⟨v', w', e1, e2, e3⟩ := h.tr.app hs (by have := h.len; omega) t hC hA
  exact ⟨v', w', e1, e2, e3, hK.other e3 (by decide) (by decide) (by decide) (by decide) (by decide) (by decide) (by decide)⟩
/-- The old one counts on. -/
theorem TrC.stay {n' : Nat} {gone' : Bool} {v' : Value} {x : Int × List (List Int)} (h : TrC w i n cur nv gone v ts W) (hT : TrV w.heap.size nv W' v' (ts ++ [x])) (hx : 0 < x.2.length ∧ x.2.length ≤ 12) (hn : gone' = false → gone = false ∧ n' = n) : TrC w (i + 1) n' cur nv gone' v' (ts ++ [x]) W' := by
  obtain ⟨hc, hcn⟩ := h.cur
  refine ⟨hT, ⟨by simp; omega, fun e => ?_⟩, by have := h.len; simp; omega, fun y hy => ?_⟩
  · obtain ⟨h1, h2⟩ := hn e
    rw [List.getElem_append_left hc, hcn h1, h2]
  · rcases List.mem_append.1 hy with hy | hy
    · have := h.bd y hy; omega
    · simp at hy
      subst hy
      omega
/-- The new one counts. -/
theorem TrC.turn {n' : Nat} {gone' : Bool} {v' : Value} {x : Int × List (List Int)} (h : TrC w i n cur nv gone v ts W) (hT : TrV w.heap.size nv W' v' (ts ++ [x])) (hx : 0 < x.2.length ∧ x.2.length ≤ 12) (hn : x.2.length = n') : TrC w (i + 1) n' ts.length nv gone' v' (ts ++ [x]) W' := by
  refine ⟨hT, ⟨by simp, fun e => ?_⟩, by have := h.len; simp; omega, fun y hy => ?_⟩
  · rw [List.getElem_append_right (Nat.le_refl _)]
    simpa using hn
  · rcases List.mem_append.1 hy with hy | hy
    · have := h.bd y hy; omega
    · simp at hy
      subst hy
      omega
end

theorem KpS.tle {w : World} {p gs i r T k n : Nat} {nv : Value} {gone : Bool} {W : World} (h : KpS w p gs i r T k n nv gone W) : T ≤ i := by
  obtain ⟨x, s, S, sd, mx, P, L, h1, h2, h3, h4, h5, h6, h7⟩ := h.ex
  have := h2.tm
  omega

/-- What `is` tells of a chest that was opened anew. -/
def IsIt (r : Nat) (t h : Int) (A : Option Addr) (n c : Nat) (W : World) : Prop :=
  ∀ W', Below W.heap.size W W' → Calls Tryd.prog 40 #[.pointer (some ⟨r, 0, none⟩), .agg (chL t h (.slice A n c)).toArray] W' fun e W2 => e = .returned (.bool true) ∧ Below W'.heap.size W' W2

/-- The chest that is opened anew. -/
theorem kopen_new {w W : World} {p gs i g T c mx sd : Nat} {S : DS} {A : Option Addr} {L : List (List Int)} (hat : At w w.heap.size p gs S W) (hg : S.Good) (hS : S.sure.length = 24) (hw : S.waits = []) (hm : mx ≤ i) (hi : i ≤ 90)
    (h0 : (copenR S).1 = 0) (h1 : (copenR S).2.1.gone = false) (hI : KInv mx (copenR S).2.1 (copenR S).2.2.1 (copenR S).2.2.2 sd T L L)
    (hblk : Blk W g 75 (chL T 12 (.slice A L.length c)).toArray) (hT : ChT w.heap.size W A c L) (hbd : ∀ l ∈ L, l.length ≤ 80000000) :
    Calls Tryd.prog 35 #[.pointer (some ⟨p, 0, none⟩)] W fun e W2 => ∃ r nv, e = .returned (.tuple #[.pointer (some ⟨r, 0, none⟩), .int .i64 0]) ∧ KpS w p gs (i + 1) r T L.length L.length nv false W2 ∧
      Blk W2 g 75 (chL T 12 (.slice A L.length c)).toArray ∧ ChT w.heap.size W2 A c L ∧ (∀ a, A = some a → 0 < L.length → nv.ownBlock ≠ some a.block) ∧ (∀ k, nv.ownBlock = some k → W.heap.size ≤ k) ∧ Kept w.heap.size sts W W2 ∧ (0 < L.length ∧ L.length ≤ 12) ∧ IsIt r T 12 A L.length c W2 := by
  have hsz := copenR_sz S (by omega)
  have hcl : (copenR S).2.2.2.clear.sure.length = 24 := hI.q.len
  obtain ⟨l1, l2, l3, k, l4⟩ := hI.live h1
  obtain ⟨n1, n2⟩ := l2.len12 hcl
  have hlq := leftQ_has l2.has
  have hm := l2.m
  have hum := l2.has.um
  rw [hcl] at hm
  rw [l2.st, hm] at hlq
  rw [hm] at hum
  have hLl := l2.l
  refine (copen_n hat hg.1 (by omega) (by rw [hw]; simp) h0).mono ?_
  rintro e W2 ⟨r, nv, rfl, hN', hv, hK⟩
  have hC2 := hT.kept hK (by decide) (by decide)
  refine ⟨r, nv, rfl, ⟨_, _, _, sd, mx, L, L, hN', hI, h1, ?_, by omega, rfl, fun _ => ⟨rfl, n1⟩⟩, hK.kt _ _ _ hblk (by decide), hC2, fun a ha h0 e => by have := hv _ e; have := hT.rowlt ha h0; omega, hv, hK, ⟨by omega, n1⟩, fun W3 hb => ?_⟩
  · have h2 := hsz.2
    rw [hw] at h2
    simp at h2
    omega
  · obtain ⟨xs, hTx, _⟩ := (hC2.below hb hN'.at_.size).ex
    have hcap := hC2.cap
    obtain ⟨X, hX⟩ : ∃ X, (copenR S).2.1 = X := ⟨_, rfl⟩
    obtain ⟨Y, hY⟩ : ∃ Y, (copenR S).2.2.1 = Y := ⟨_, rfl⟩
    rw [hX] at hN' h1 hLl n2
    rw [hY] at hN' hlq hm hum
    rw [hLl] at hTx hlq hbd hcap n1 ⊢
    simp only [List.length_cons] at hlq hcap n1 ⊢
    refine is_any (hN'.old.after hb) h1 (by have := hbd X.h (by simp); omega) (fun l hl' => by have := hbd l (by simp [hl']); omega) (by omega) (by omega) (by omega) (T : Int) 12 (by omega) A c xs hTx (by omega) ?_
    rw [hm, ← hlq]
    rfl
/-! ### Pick -/
theorem tmod_pick (k : Int) (n : Nat) (hn : 0 < n) : (k.tmod n < 0 → k.tmod n + n = k % n) ∧ (0 ≤ k.tmod n → k.tmod n = k % n) ∧ -(n : Int) ≤ k.tmod n ∧ k.tmod n ≤ n := by
  have h1 := Int.emod_nonneg k (show (n : Int) ≠ 0 by omega)
  have h2 := Int.emod_lt_of_pos k (show (0 : Int) < n by omega)
  have h3 : k.tmod n = k % n - ((if 0 ≤ k ∨ (n : Int) ∣ k then 0 else Int.natAbs n : Nat) : Int) := Int.tmod_eq_emod
  split at h3 <;> simp at h3 <;> omega

set_option maxHeartbeats 1000000 in
theorem pick_any (k : Int) (n : Nat) (w : World) (hn : 0 < n) (_hk : -9223372036854775808 ≤ k ∧ k ≤ 9223372036854775807) (hm : n ≤ 1000000) :
    Calls Tryd.prog 48 #[.int .i64 k, .int .i64 (n : Int)] w fun e w' => e = .returned (.int .i64 (k % n)) ∧ w = w' := by
  have h1 : decide ((n : Int) < 1) = false := by simp; omega
  have h0 : ((n : Int) == 0) = false := by simp; omega
  go_enter Tryd.func48, Tryd.ntmps48
  go_wp2
  · go_ret
    have ht := tmod_pick k n hn
    have hlt : k.tmod n < 0 := by assumption
    refine ⟨?_, rfl⟩
    have e : wrap64 (k.tmod n + n) = k % n := by
      rw [← ht.1 hlt]
      exact wrap64_in _ (by omega)
    rw [← e]
    rfl
  · go_ret
    have ht := tmod_pick k n hn
    have hlt : 0 ≤ k.tmod n := by assumption
    refine ⟨?_, rfl⟩
    rw [← ht.2.1 hlt]
    rfl

/-- The try that counts, in the row. -/
theorem TrC.sure {w : World} {i n cur : Nat} {nv v : Value} {ts : List (Int × List (List Int))} {W : World} (h : TrC w i n cur nv false v ts W) : ∃ (g c : Nat) (A : Option Addr) (d : Nat), v = .slice (some ⟨g, 0, none⟩) ts.length c ∧ cur < ts.length ∧ W.cell? ⟨g, cur * 2 + 1, none⟩ = some (.slice A n d) := by
  obtain ⟨hc, hn⟩ := h.cur
  obtain ⟨g, c, rfl, hB, hg, hfz, hce⟩ := h.tr.cells (by omega)
  obtain ⟨A, d, e1, e2, e3, e4⟩ := hce cur hc
  rw [hn rfl, show 2 * cur = cur * 2 by omega] at e2
  exact ⟨g, c, A, d, rfl, hc, e2⟩
theorem TrC.form {w : World} {i n cur : Nat} {nv v : Value} {gone : Bool} {ts : List (Int × List (List Int))} {W : World} (h : TrC w i n cur nv gone v ts W) : ∃ (g c : Nat), v = .slice (some ⟨g, 0, none⟩) ts.length c ∧ cur < ts.length := by
  obtain ⟨hc, hn⟩ := h.cur
  obtain ⟨g, c, rfl, _⟩ := h.tr.cells (by omega)
  exact ⟨g, c, rfl, hc⟩
end Go.Proofs.YtohadeijmmmcdaaDoor
