/-
  The arguments opened: the chest's acts.
  ChestPlays: the walk.
-/
import Derived.Test.YtohadeijmmmcdaaDoorChestG
import Derived.Test.YtohadeijmmmcdaaDoorChM

section
namespace Go.Proofs.YtohadeijmmmcdaaDoor
open Go.ChangeShapes Go.WideShapes Go.ChangeAt Go.RowKit Go.Deep
set_option maxRecDepth 100000

section
variable {H : Type} {enc : TypeId × Value → H} {w : World} {base : Nat} {spare : Nat → Bool} {held : Bool}

structure ActD where
  what : Int
  where_ : Int
  b : List Int
  m : List Int

/-- One act's cells. -/
def ActAt (w : World) (g o : Nat) (a : ActD) : Prop :=
  (-9223372036854775808 ≤ a.what ∧ a.what ≤ 9223372036854775807) ∧ (-9223372036854775808 ≤ a.where_ ∧ a.where_ ≤ 9223372036854775807) ∧
  w.cell? ⟨g, o, none⟩ = some (.int .i64 a.what) ∧ w.cell? ⟨g, o + 1, none⟩ = some (.int .i64 a.where_) ∧
  (∃ A c, w.cell? ⟨g, o + 2, none⟩ = some (.slice A a.b.length c) ∧ BytN w A c a.b ∧ a.b.length ≤ maxLen) ∧ (∃ A c, w.cell? ⟨g, o + 3, none⟩ = some (.slice A a.m.length c) ∧ BytN w A c a.m ∧ a.m.length ≤ maxLen)

/-- The slice at A holds these acts. -/
def Acts (w : World) (A : Option Addr) (l : List ActD) : Prop := ∀ i, (h : i < l.length) → ∃ g off, A = some ⟨g, off, none⟩ ∧ g < w.heap.size ∧ ActAt w g (off + i * 4) l[i]

theorem act_fields : ∃ f0 f1 f2 f3 : Field, Tryd.prog.underlying 85 = some (.struct #[f0, f1, f2, f3]) ∧ f0.type = 3 ∧ f1.type = 3 ∧ f2.type = 22 ∧ f3.type = 22 ∧ f0.offset = 0 ∧ f1.offset = 1 ∧ f2.offset = 2 ∧ f3.offset = 3 :=
  ⟨_, _, _, _, Tryd.underlying85, rfl, rfl, rfl, rfl, rfl, rfl, rfl, rfl⟩

theorem trod_act {fuel : Nat} {cs : List Value} {x : DataW H × List MemPlace} (h : DataW.trod enc Tryd.prog w base spare held fuel 85 cs = some x) {g o : Nat} (hc : ∀ j v, cs[j]? = some v → w.cell? ⟨g, o + j, none⟩ = some v) :
    ∃ a : ActD, ActAt w g o a := by
  obtain ⟨f0, f1, f2, f3, hu, t0, t1, t2, t3, o0, o1, o2, o3⟩ := act_fields
  obtain ⟨xs, n, _, _, hlen, hxl, hf⟩ := DataW.trod_struct hu h
  have hC : Tryd.prog.cellsOf 85 = 4 := by kernel_rfl
  rw [hC] at hlen
  have k3 : Tryd.prog.cellsOf 3 = 1 := by kernel_rfl
  have k26 : Tryd.prog.cellsOf 22 = 1 := by kernel_rfl
  match cs, hlen with
  | [c0, c1, c2, c3], _ =>
    match xs, hxl with
    | [y0, y1, y2, y3], _ =>
      have h0 := hf 0 f0 rfl
      have h1 := hf 1 f1 rfl
      have h2 := hf 2 f2 rfl
      have h3 := hf 3 f3 rfl
      rw [t0, o0, k3] at h0
      rw [t1, o1, k3] at h1
      rw [t2, o2, k26] at h2
      rw [t3, o3, k26] at h3
      obtain ⟨a, e0, _, wa⟩ := DataW.trod_int Tryd.underlying3 h0
      obtain ⟨b, e1, _, wb⟩ := DataW.trod_int Tryd.underlying3 h1
      obtain ⟨A2, l2, n2, e2, hb2, hm2⟩ := trod_bytes h2
      obtain ⟨A3, l3, n3, e3, hb3, hm3⟩ := trod_bytes h3
      simp at e0 e1 e2 e3
      subst e0 e1 e2 e3
      exact ⟨⟨a, b, l2, l3⟩, bounds_i64 wa, bounds_i64 wb, hc 0 _ rfl, hc 1 _ rfl, ⟨_, _, hc 2 _ rfl, hb2, hm2⟩, ⟨_, _, hc 3 _ rfl, hb3, hm3⟩⟩

theorem trod_acts {fuel : Nat} {cs : List Value} {x : DataW H × List MemPlace} (h : DataW.trod enc Tryd.prog w base spare held fuel 82 cs = some x) :
    ∃ A l c, cs = [.slice A l.length c] ∧ Acts w A l ∧ l.length ≤ maxLen := by
  rcases open_slice Tryd.underlying82 h with ⟨rfl, _⟩ | ⟨a, len, cap, m, n, D, Pl, rfl, _, hl, hm, hmm, _, hi⟩
  · exact ⟨none, [], 0, rfl, fun i h => absurd h (by simp), by simp⟩
  · have hml : len ≤ m := by rw [hmm]; split <;> omega
    have hC : Tryd.prog.cellsOf 85 = 4 := by kernel_rfl
    obtain ⟨b, off, spot⟩ := a
    have hspot : 0 < len → spot = none ∧ b < w.heap.size := by
      intro h0
      obtain ⟨cs', hc, ht⟩ := hi 0 (by omega)
      rw [hC] at hc
      obtain ⟨_, hcl, hat⟩ := World.cells?_some hc
      have := hat 0 (by omega)
      rw [List.getElem?_eq_getElem (by omega)] at this
      have hs : spot = none := by simpa [Addr.add] using World.cell?_spot this
      subst hs
      refine ⟨rfl, ?_⟩
      rw [add_none, add_none] at this
      exact block_lt_of_cell this
    have each : ∀ i, ∃ a : ActD, i < len → ActAt w b (off + i * 4) a := by
      intro i
      by_cases h : i < len
      · obtain ⟨rfl, hbl⟩ := hspot (by omega)
        obtain ⟨cs', hc, ht⟩ := hi i (by omega)
        rw [hC] at hc
        obtain ⟨_, hcl, hat⟩ := World.cells?_some hc
        obtain ⟨a, ha⟩ := trod_act (g := b) (o := off + i * 4) ht (fun j v hv => by
          have hj : j < 4 := by have := (List.getElem?_eq_some_iff.1 hv).1; omega
          have := hat j hj
          rw [add_none, add_none, hv] at this
          exact this)
        exact ⟨a, fun _ => ha⟩
      · exact ⟨⟨0, 0, [], []⟩, fun h' => absurd h' h⟩
    obtain ⟨f, hf⟩ := Classical.skolem.1 each
    have hll : ((List.range len).map f).length = len := by simp
    refine ⟨some ⟨b, off, spot⟩, (List.range len).map f, cap, by rw [hll], fun i h0 => ?_, by rw [hll]; omega⟩
    rw [hll] at h0
    obtain ⟨rfl, hbl⟩ := hspot (by omega)
    refine ⟨b, off, rfl, hbl, ?_⟩
    have := hf i h0
    simpa using this
end

end Go.Proofs.YtohadeijmmmcdaaDoor
end

section
namespace Go.Proofs.YtohadeijmmmcdaaDoor
open Go Go.RowKit Machine
set_option maxRecDepth 100000

def GreatPost (l : List ActD) (e : Ending) : Prop := ∃ R : Bool, e = .returned (.bool R) ∧ (R = false → l.length ≤ 30 ∧ ∀ a ∈ l, a.b.length ≤ 300 ∧ a.m.length ≤ 80)

section
set_option maxHeartbeats 4000000 in
theorem great14 (A : Option Addr) (c : Nat) (l : List ActD) (w : World) (hl : Acts w A l) (hn : l.length ≤ maxLen) :
    Calls Tryd.prog 43 #[.slice A l.length c] w fun e w' => GreatPost l e ∧ ∃ k, w' = w.drewN k := by
  obtain ⟨n, hN⟩ : ∃ n, l.length = n := ⟨_, rfl⟩
  rw [hN] at hn ⊢
  have hn' : n ≤ 9223372036854775807 := by unfold maxLen at hn; omega
  have HL := Lib.hid hl
  have HN := Lib.hid hN
  clear hl hN hn
  go_enter Tryd.func43, Tryd.ntmps43
  go_wp2_with fail
  go_loopg [3] n (fun k t wr => ∃ i : Nat, i + k = n ∧ t = .int .i64 (i : Int) ∧ (∀ j a, l[j]? = some a → j < i → a.b.length ≤ 300 ∧ a.m.length ≤ 80) ∧ i ≤ 30 ∧ ∃ m, wr = w.drewN m)
  case atStart => exact ⟨0, by omega, rfl, fun j a h h' => by omega, by omega, 0, rfl⟩
  case round =>
    obtain ⟨i, hi, rfl, hall, hi30, m, rfl⟩ := hrel
    have HALL := Lib.hid hall
    clear hall
    by_cases hin : i < n
    · have hinI : (i : Int) < (n : Int) := by omega
      by_cases h30 : i < 30
      · have h30I : (i : Int) < 30 := by omega
        obtain ⟨a, ha⟩ : ∃ a, l[i]? = some a := ⟨l[i]'(by rw [HN.out]; exact hin), by simp [HN.out, hin]⟩
        have hil : i < l.length := by rw [HN.out]; exact hin
        obtain ⟨g, off, rfl, hg, hat⟩ := HL.out i hil
        have hae : l[i] = a := by have := List.getElem?_eq_getElem hil; rw [this] at ha; exact Option.some.inj ha
        rw [hae] at hat
        obtain ⟨_, _, c0, c1, ⟨Ab, cb, c2, _, _⟩, ⟨Am, cm, c3, _, _⟩⟩ := hat
        by_cases hb : 300 < a.b.length
        · have hbI : (300 : Int) < (a.b.length : Int) := by omega
          go_wp2_with fail
          go_ret
          exact ⟨⟨true, rfl, fun e => by cases e⟩, _, rfl⟩
        · have hbI : ¬ (300 : Int) < (a.b.length : Int) := by omega
          by_cases hm : 80 < a.m.length
          · have hmI : (80 : Int) < (a.m.length : Int) := by omega
            go_wp2_with fail
            go_ret
            exact ⟨⟨true, rfl, fun e => by cases e⟩, _, rfl⟩
          · have hmI : ¬ (80 : Int) < (a.m.length : Int) := by omega
            have hnx : ∀ j a', l[j]? = some a' → j < i + 1 → a'.b.length ≤ 300 ∧ a'.m.length ≤ 80 := fun j a' hj hji => by
              by_cases hlt : j < i
              · exact HALL.out j a' hj hlt
              · obtain rfl : j = i := by omega
                rw [ha] at hj
                cases hj
                exact ⟨by omega, by omega⟩
            have HNX := Lib.hid hnx
            have HI := Lib.hid hi
            clear hnx hi ha hae hb hm
            go_wp2_with fail
            go_roundg (n - (i + 1))
            case measure => have := HI.out; omega
            case rel => exact ⟨i + 1, by omega, by go_num, HNX.out, by omega, _, rfl⟩
      · obtain rfl : i = 30 := by omega
        have h30I : ¬ ((30 : Nat) : Int) < 30 := by omega
        go_wp2_with fail
        go_ret
        by_cases h31 : 30 < n
        · have h31I : (30 : Int) < (n : Int) := by omega
          exact ⟨⟨true, by simp, fun e => by cases e⟩, _, rfl⟩
        · obtain rfl : n = 30 := by omega
          omega
    · obtain rfl : i = n := by omega
      have hltI : ¬ (i : Int) < (i : Int) := by omega
      go_wp2_with fail
      go_ret
      refine ⟨⟨false, by simp; omega, fun e => ⟨by rw [HN.out]; omega, fun a ha => ?_⟩⟩, _, rfl⟩
      obtain ⟨j, hj, rfl⟩ := List.getElem_of_mem ha
      exact HALL.out j _ (List.getElem?_eq_getElem hj) (by rw [← HN.out]; exact hj)
end
end Go.Proofs.YtohadeijmmmcdaaDoor
end
