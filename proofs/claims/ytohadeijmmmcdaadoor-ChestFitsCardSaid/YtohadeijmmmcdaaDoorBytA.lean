/-
  The drum's Read.
  The drum without law 12's helpers: bytes compared; New.
  Bytes: rows of one's own that are appended to; parts of a slice.
  Texts: rows whose elements are byte slices.
-/
import Derived.Test.YtohadeijmmmcdaaDoorDrumF
import Derived.Laws.AppendOwnNone
import Derived.Laws.OwnMore

section
namespace Go.Proofs.YtohadeijmmmcdaaDoor
open Go.RowKit
set_option maxRecDepth 100000
attribute [local go_sem ↓] ld62 ld60 st62 st60 al62 al60

theorem now_any (B : Nat) (p gs : Nat) (wv : Value) (S : DS) (k : Nat) (w : World) (h : IsDrum B w p gs wv S) (hk : k < S.sure.length) (hlen : S.waits.length ≤ 1000000000) :
    Calls Tryd.prog 90 #[.pointer (some ⟨p, 0, none⟩), .int .i64 (k : Int)] w fun e w' => e = .returned (.agg (bys (S.now k)).toArray) ∧ Below w.heap.size w w' :=
  callsIn_wide.1 (now_in Fence.wide 6 trivial trivial trivial rfl (by omega) B p gs wv S k w h hk hlen)

set_option maxHeartbeats 1000000 in
theorem read_ok (B : Nat) (p gs : Nat) (wv : Value) (S : DS) (k : Nat) (w : World) (h : IsDrum B w p gs wv S) (hoff : S.off = false) (hk : k < S.sure.length) (hlen : S.waits.length ≤ 1000000000) :
    Calls Tryd.prog 70 #[.pointer (some ⟨p, 0, none⟩), .int .i64 (k : Int)] w fun e w' =>
      ∃ g, (e = .returned (.tuple #[.slice (some ⟨g, 0, none⟩) 64 64, .int .i64 0]) ∧ Blk w' g 119 (bys (S.now k)).toArray ∧ w.heap.size ≤ g ∧ Below w.heap.size w w') := by
  have hst := h.st
  rw [hoff] at hst
  have HIS := Lib.hid (is_yes p gs S.sure.length wv S.fuse false (k : Int) w hst (by omega) (by omega))
  have HN := Lib.hid (now_any B p gs wv S k w h hk hlen)
  have c3 : w.cell? ⟨p, 3, none⟩ = some (.bool false) := hst.c3
  have HS := Lib.hid (DS.now_sec h.ok hk).1
  clear hst h hoff hk
  go_enter Tryd.func70, Tryd.ntmps70
  go_wp2_with fail
  refine HIS.out.mono ?_
  rintro e w0 ⟨rfl, rfl⟩
  go_wp2_with fail
  refine HN.out.mono ?_
  rintro e w1 ⟨rfl, hb⟩
  obtain ⟨sk, hsk⟩ : ∃ sk, S.now k = sk := ⟨_, rfl⟩
  rw [hsk]
  have h64 := HS.out
  rw [hsk] at h64
  obtain ⟨z, hz1, hz2⟩ := Option.map_eq_some_iff.1 z60
  have hal := ALs_new (P := Tryd.prog) (t := 119) z hz1
  obtain ⟨Z, hZ⟩ : ∃ Z, z.cells = Z := ⟨_, rfl⟩
  rw [hZ] at hal hz2
  have hst := STs_new (P := Tryd.prog) (t := 119) i60 w1 Z hz2 (bys sk) (by rw [bys_length, h64]) (bys_one _)
  have HB := Lib.hid hb
  have HSK := Lib.hid hsk
  clear hz1 hZ h64 hsk c3 hb
  go_wp2_with fail
  go_ret2
  exact ⟨w1.heap.size, rfl, by rw [HSK.out]; exact Blk.new _ _ _, HB.out.size, HB.out.alloc HB.out.size _⟩

theorem read_down (p : Nat) (sv wv : Value) (fuse : Int) (k : Int) (w : World) (h : DrumB w p sv wv fuse true) :
    Calls Tryd.prog 70 #[.pointer (some ⟨p, 0, none⟩), .int .i64 k] w fun e w' => e = .returned (.tuple #[.slice none 0 0, .int .i64 21]) ∧ w = w' := by
  have c3 := h.c3
  clear h
  go_enter Tryd.func70, Tryd.ntmps70
  go_wp2_with fail
  go_ret2
  exact ⟨rfl, rfl⟩

theorem read_range (p gs n : Nat) (wv : Value) (fuse : Int) (k : Int) (w : World) (h : DrumB w p (.slice (some ⟨gs, 0, none⟩) n n) wv fuse false) (hk : k < 0 ∨ n ≤ k) :
    Calls Tryd.prog 70 #[.pointer (some ⟨p, 0, none⟩), .int .i64 k] w fun e w' => e = .returned (.tuple #[.slice none 0 0, .int .i64 5]) ∧ w = w' := by
  have c3 := h.c3
  have HIS := Lib.hid (is_no p gs n wv fuse false k w h hk)
  clear h hk
  go_enter Tryd.func70, Tryd.ntmps70
  go_wp2_with fail
  refine HIS.out.mono ?_
  rintro e w0 ⟨rfl, rfl⟩
  go_wp2_with fail
  go_ret2
  exact ⟨rfl, rfl⟩

/-- A new slice of these bytes: nil, or in a block of its own. -/
structure NewB (n₀ : Nat) (w : World) (A : Option Addr) (l : List Int) : Prop where
  byt : Byt w A l
  new : ∀ a, A = some a → n₀ ≤ a.block

theorem Blk.byt {w : World} {g : Nat} {t : TypeId} {l : List Int} (h : Blk w g t (bys l).toArray) (hl : ∀ x ∈ l, 0 ≤ x ∧ x ≤ 255) : Byt w (some ⟨g, 0, none⟩) l :=
  ⟨fun _ => ⟨g, 0, rfl, h.lt, fun j x hx => by rw [h.cell]; simp [bys_get, hx]⟩, hl⟩
theorem Byt.nil (w : World) (A : Option Addr) : Byt w A [] := ⟨fun h => absurd h (by simp), by simp⟩

/-- READ. -/
theorem read_any (B : Nat) (p gs : Nat) (wv : Value) (S : DS) (k : Int) (w : World) (h : IsDrum B w p gs wv S) (hlen : S.waits.length ≤ 1000000000) :
    Calls Tryd.prog 70 #[.pointer (some ⟨p, 0, none⟩), .int .i64 k] w fun e w' =>
      ∃ A c, (e = .returned (.tuple #[.slice A (S.read k).1.length c, .int .i64 (S.read k).2]) ∧ NewB w.heap.size w' A (S.read k).1 ∧ Below w.heap.size w w') := by
  by_cases hoff : S.off = true
  · have e1 : S.read k = ([], 21) := by simp [DS.read, hoff]
    have hst := h.st
    rw [hoff] at hst
    refine (read_down p _ wv _ k w hst).mono ?_
    rintro e w' ⟨rfl, rfl⟩
    rw [e1]
    exact ⟨none, 0, rfl, ⟨Byt.nil _ _, by simp⟩, Below.refl _ _⟩
  have hoff : S.off = false := by simpa using hoff
  have hst := h.st
  rw [hoff] at hst
  by_cases hk : k < 0 ∨ S.sure.length ≤ k
  · have e1 : S.read k = ([], 5) := by simp [DS.read, hoff, hk]
    refine (read_range p gs _ wv _ k w hst hk).mono ?_
    rintro e w' ⟨rfl, rfl⟩
    rw [e1]
    exact ⟨none, 0, rfl, ⟨Byt.nil _ _, by simp⟩, Below.refl _ _⟩
  · have e1 : S.read k = (S.now k.toNat, 0) := by simp [DS.read, hoff, hk]
    have e2 : ((k.toNat : Nat) : Int) = k := by omega
    have hkl : k.toNat < S.sure.length := by omega
    have hr := read_ok B p gs wv S k.toNat w h hoff hkl hlen
    rw [e2] at hr
    refine hr.mono ?_
    rintro e w' ⟨g, rfl, hb, hg, hbl⟩
    have hs := DS.now_sec h.ok hkl
    rw [e1]
    dsimp only
    rw [hs.1]
    exact ⟨some ⟨g, 0, none⟩, 64, rfl, ⟨hb.byt hs.2, fun a e => by cases e; exact hg⟩, hbl⟩

end Go.Proofs.YtohadeijmmmcdaaDoor
end

section
namespace Go.Proofs.YtohadeijmmmcdaaDoor
open Go.RowKit
set_option maxRecDepth 100000

theorem iz5 : (Tryd.prog.info? 5).map (fun i => (i.zero, i.size, i.bytes)) = some (some (.int .u8 0), 1, 1) := by kernel_rfl

theorem made_bytes (n : Nat) : madeCells #[Value.int .u8 0] n = (bys (List.replicate n 0)).toArray := by
  apply Array.ext'
  rw [made_eq #[Value.int .u8 0] (.int .u8 0) n 1 rfl (by omega)]
  simp [bys]

/-- Make bytes. -/
theorem make_bytes (n : Nat) (hn : n ≤ 1000000000) (w : World) : (Instr.makeSlice 22 (.int .i64 (n : Int)) (.int .i64 (n : Int))).run Tryd.prog w = .ok (.slice (some ⟨w.heap.size, 0, none⟩) n n) (w.alloc (.cells (bys (List.replicate n 0)).toArray 5)) := by
  obtain ⟨i, hi, hh⟩ := Option.map_eq_some_iff.1 iz5
  simp only [Prod.mk.injEq] at hh
  obtain ⟨hz, hs, hb⟩ := hh
  have hr := run_make (P := Tryd.prog) w 22 5 i (.int .u8 0) Tryd.underlying22 hi hz .i64 .i64 n n (by omega) (Int.le_refl _) (by rw [hb]; omega) (by omega)
  rw [hs] at hr
  simp only [Int.toNat_natCast, Nat.mul_one, Value.cells, made_bytes] at hr
  exact hr

theorem take_more {α : Type} [DecidableEq α] {a b : List α} {i : Nat} (ha : i < a.length) (hb : i < b.length) (h : a.take i = b.take i) (he : a[i] = b[i]) : a.take (i + 1) = b.take (i + 1) := by
  rw [List.take_succ_eq_append_getElem ha, List.take_succ_eq_append_getElem hb, h, he]

set_option maxHeartbeats 1000000 in
theorem bytes_any (A1 A2 : Option Addr) (c1 c2 : Nat) (a b : List Int) (w : World) (ha : Byt w A1 a) (hb : Byt w A2 b) (hla : a.length ≤ 1000000000) (hlb : b.length ≤ 1000000000) :
    Calls Tryd.prog 17 #[.slice A1 a.length c1, .slice A2 b.length c2] w fun e w' => e = .returned (.bool (decide (a = b))) ∧ ∃ m, w' = w.drewN m := by
  by_cases hl : a.length = b.length
  · have hne : ((a.length : Int) != (b.length : Int)) = false := by simp [hl]
    have HL := Lib.hid hl
    have HA := Lib.hid ha
    have HB := Lib.hid hb
    rw [← hl]
    clear hl ha hb hne
    go_enter Tryd.func17, Tryd.ntmps17
    go_wp2
    go_loopw [5] (fun t wr => ∃ i : Nat, i ≤ a.length ∧ t = .int .i64 i ∧ a.take i = b.take i ∧ ∃ m, wr = w.drewN m)
      (fun t _ => a.length - (intOf t).toNat)
    case atStart => exact ⟨0, Nat.zero_le _, rfl, rfl, 0, rfl⟩
    case round =>
      obtain ⟨i, hi, rfl, ht, m, rfl⟩ := hrel
      have HT := Lib.hid ht
      clear ht
      by_cases hlt : i < a.length
      · have hlt2 : i < b.length := by rw [← HL.out]; exact hlt
        obtain ⟨g1, o1, rfl, _, hc1⟩ := HA.out.at_ hlt
        obtain ⟨g2, o2, rfl, _, hc2⟩ := HB.out.at_ hlt2
        have hc1' : w.cell? ⟨g1, o1 + i, none⟩ = some (.int .u8 a[i]) := hc1
        have hc2' : w.cell? ⟨g2, o2 + i, none⟩ = some (.int .u8 b[i]) := hc2
        obtain ⟨x, hx⟩ : ∃ x, a[i] = x := ⟨_, rfl⟩
        obtain ⟨y, hy⟩ : ∃ y, b[i] = y := ⟨_, rfl⟩
        rw [hx] at hc1'
        rw [hy] at hc2'
        have HX := Lib.hid hx
        have HY := Lib.hid hy
        by_cases hxy : x = y
        · have hn : (x != y) = false := by simp [hxy]
          have HXY := Lib.hid hxy
          clear hc1 hc2 hx hy hxy
          go_wp2
          go_region
          go_wp2
          refine ⟨⟨i + 1, by omega, by go_num, take_more hlt hlt2 HT.out (by rw [HX.out, HY.out, HXY.out]), m + 1, rfl⟩, by simp [intOf]; omega⟩
        · have hn : (x != y) = true := by simp [hxy]
          have HXY := Lib.hid hxy
          clear hc1 hc2 hx hy hxy
          go_wp2
          go_region
          go_wp2
          go_ret
          refine ⟨?_, m + 1, rfl⟩
          have hab : a ≠ b := fun e => by
            subst e
            exact HXY.out (HX.out.symm.trans HY.out)
          simp [hab]
      · obtain rfl : i = a.length := by omega
        go_wp2
        go_ret
        have hab : a = b := by
          have h1 := HT.out
          rw [List.take_length, HL.out, List.take_length] at h1
          exact h1
        exact ⟨by simp [hab], m, rfl⟩
  · have hne : ((a.length : Int) != (b.length : Int)) = true := by simp; omega
    have hab : decide (a = b) = false := by
      simp only [decide_eq_false_iff_not]
      intro e
      exact hl (by rw [e])
    have HAB := Lib.hid hab
    clear hl ha hb hab
    go_enter Tryd.func17, Tryd.ntmps17
    go_wp2
    go_ret
    exact ⟨by rw [HAB.out]; rfl, 0, rfl⟩

theorem wrap64_in (n : Int) (h : -9223372036854775808 ≤ n ∧ n ≤ 9223372036854775807) : wrap64 n = n := by unfold wrap64; omega

theorem new_drum (n : Nat) (w : World) (h1 : 1 ≤ n) (h2 : n ≤ 8192) :
    Calls Tryd.prog 18 #[.int .i64 (n : Int)] w fun e w' => e = .returned (.pointer (some ⟨w.heap.size + 1, 0, none⟩)) ∧
      IsDrum w.heap.size w' (w.heap.size + 1) w.heap.size (.slice none 0 0) (DS.new n) ∧ Below w.heap.size w w' := by
  refine (new_some n w h1 h2).mono ?_
  rintro e w' ⟨rfl, hd, hb, hf⟩
  refine ⟨rfl, ⟨DS.new_ok h1 h2, by omega, Nat.le_refl _, by simpa [DS.new] using hd, ?_, World.ownsRow_nil _ _ _ _⟩, hf.below (Nat.le_refl _) (fun _ _ f => f)⟩
  have e : bys (DS.new n).sure.flatten = List.replicate (n * 64) (Value.int .u8 0) := by
    show bys (List.replicate n (List.replicate 64 0)).flatten = _
    rw [List.flatten_replicate_replicate]
    exact List.map_replicate
  rw [e]
  exact hb

/-- A drum's frame is over B. -/
theorem IsDrum.below {B : Nat} {w w' : World} {p gs : Nat} {wv : Value} {S : DS} (h : IsDrum B w p gs wv S) (hf : Fr (DF p gs wv) w w') {B' : Nat} (hB : B' ≤ B) (hw : B' ≤ w.heap.size) : Below B' w w' :=
  hf.below hw (fun k hk hd => by have := (h.lt hd).1; omega)


end Go.Proofs.YtohadeijmmmcdaaDoor
end

section
section
namespace Go.Proofs.YtohadeijmmmcdaaDoor
open Go.RowKit
set_option maxRecDepth 100000

theorem u22 : Tryd.prog.underlying 22 = some (.slice 5) := by kernel_rfl
theorem ib5 : (Tryd.prog.info? 5).map (fun i => (i.zero.map (·.cells.size), i.size, i.bytes)) = some (some 1, 1, 1) := by kernel_rfl

/-- The slice v has the bytes l, in a row of one's own. -/
def Own8 (B : Nat) (w : World) (v : Value) (l : List Int) : Prop := w.ownsRow B 5 1 v l.length (bys l)

section
variable {B : Nat} {w w' : World} {v : Value} {l : List Int}
theorem Own8.nil (B : Nat) (w : World) : Own8 B w (.slice none 0 0) [] := World.ownsRow_nil _ _ _ _
theorem Own8.fr {F : Nat → Prop} (h : Own8 B w v l) (hf : Fr F w w') (hn : ∀ k, v.ownBlock = some k → ¬ F k) : Own8 B w' v l := own_fr h hf hn
theorem Own8.form (h : Own8 B w v l) : ∃ A c, v = .slice A l.length c := own_form h
theorem Own8.byt (h : Own8 B w v l) (hb : ∀ x ∈ l, 0 ≤ x ∧ x ≤ 255) : ∃ A c, v = .slice A l.length c ∧ Byt w A l ∧ (∀ a, A = some a → B ≤ a.block) ∧ l.length ≤ c := by
  obtain ⟨h1, ⟨rfl, h2⟩ | ⟨g, cap, cur, rfl, hg, hh, hn, _, hs, ht⟩⟩ := h
  · exact ⟨none, 0, by rw [h2], ⟨fun h0 => by omega, hb⟩, by simp, by omega⟩
  · refine ⟨some ⟨g, 0, none⟩, cap, rfl, ⟨fun _ => ⟨g, 0, rfl, (Array.getElem?_eq_some_iff.1 hh).1, fun j x hx => ?_⟩, hb⟩, fun a e => ?_, hn⟩
    · rw [cell_of_row w g (0 + j) cur _ (0, 0) hh]
      have hj : j < l.length := (List.getElem?_eq_some_iff.1 hx).1
      have e : (bys l)[j]? = some (.int .u8 x) := by rw [bys_get, hx]; rfl
      rw [← ht, List.getElem?_take] at e
      simp only [show j < l.length * 1 by omega, if_true, Array.getElem?_toList] at e
      rw [Nat.zero_add]
      exact e
    · cases e; exact hg
theorem Own8.lt (h : Own8 B w v l) {k : Nat} (hk : v.ownBlock = some k) : B ≤ k ∧ k < w.heap.size := World.ownsRow.lt h k hk
end

/-- An append of bytes, wherever they lie. -/
theorem app8 {ty : TypeId} {B : Nat} {w : World} {v : Value} {l m : List Int} {A : Option Addr} {c : Nat} (h : Own8 B w v l) (hm : Byt w A m) (hlen : l.length + m.length ≤ 140737488355328) (hB : B ≤ w.heap.size) (hc : A = none → c = 0) :
    ∃ v' w', (APs #[22, 22] ty #[v, .slice A m.length c]).run Tryd.prog w = .ok v' w' ∧ Own8 B w' v' (l ++ m) ∧ Fr (fun k => v.ownBlock = some k) w w' ∧ Foot w v v' := by
  cases A with
  | none =>
    have e : m = [] := by
      cases m with
      | nil => rfl
      | cons x r =>
        obtain ⟨g, o, e, _⟩ := hm.cell (by simp)
        cases e
    subst e
    obtain rfl := hc rfl
    obtain ⟨i, hi⟩ := Option.map_eq_some_iff.1 i5
    refine ⟨v, w, run_append_owned_none w B 22 ty 5 i 1 u22 hi.1 v l.length (bys l) h, by simpa using h, Fr.refl _ _, Foot.refl _ _⟩
  | some a =>
    have hnews : ∀ j u, (bys m)[j]? = some u → w.cell? (a.add j) = some u := by
      intro j u hu
      rw [bys_get] at hu
      obtain ⟨x, hx, rfl⟩ := Option.map_eq_some_iff.1 hu
      have hj : j < m.length := (List.getElem?_eq_some_iff.1 hx).1
      obtain ⟨g, o, e, _, hcell⟩ := hm.cell (by omega)
      cases e
      have hadd : (⟨g, o, none⟩ : Addr).add j = ⟨g, o + j, none⟩ := by unfold Addr.add; split <;> simp_all
      rw [hadd]
      exact hcell j x hx
    obtain ⟨v', w', h1, h2, h3, h4⟩ := APs_own (P := Tryd.prog) (ty := ty) u22 ib5 (by omega) h (a := a) (m := m.length) (c := c) (bys m) (by simp [bys_length]) hnews (bys_one m) (by unfold maxLen; omega) (by omega) hB
    refine ⟨v', w', h1, ?_, (Fr.refl _ w).grown h3 (fun k _ e => e), ?_⟩
    · unfold Own8
      rw [bys_app, List.length_append]
      exact h2
    · intro j hj
      rcases h4 with e | e
      · exact .inl (e ▸ hj)
      · right
        rw [e] at hj
        injection hj with hj
        omega

/-- An append of one byte, which is laid in a block of its own ahead. -/
theorem app8_one {ty : TypeId} {B : Nat} {w : World} {v : Value} {l : List Int} {x : Int} (h : Own8 B w v l) (hx : 0 ≤ x ∧ x ≤ 255) (hlen : l.length + 1 ≤ 1000000000) (hB : B ≤ w.heap.size) :
    ∃ v' w', (APs #[22, 22] ty #[v, .slice (some ⟨w.heap.size, 0, none⟩) 1 1]).run Tryd.prog (w.alloc (.cells #[.int .u8 x] 5)) = .ok v' w' ∧ Own8 B w' v' (l ++ [x]) ∧ Fr (fun k => v.ownBlock = some k) w w' ∧ Foot w v v' := by
  have hb : Blk (w.alloc (.cells #[.int .u8 x] 5)) w.heap.size 5 (bys [x]).toArray := Blk.new w _ _
  obtain ⟨v', w', h1, h2, h3, h4⟩ := app8 (ty := ty) (m := [x]) (c := 1) (World.ownsRow.alloc h (.cells #[.int .u8 x] 5)) (hb.byt (by simpa using hx)) (by simp only [List.length_cons, List.length_nil]; omega) (by simp; omega) (by simp)
  refine ⟨v', w', h1, h2, ((Fr.refl _ w).alloc (.cells #[.int .u8 x] 5)).trans h3 (fun k _ e => e), ?_⟩
  intro j hj
  rcases h4 j hj with e | e
  · exact .inl e
  · right; simp at e; omega

/-- A part of a slice. -/
theorem part8 {w : World} {A : Option Addr} {L : List Int} (hb : Byt w A L) (c l h m : Nat) (vl vh vm : Option Value) (hl : l ≤ h) (hh : h ≤ L.length) (hm : h ≤ m) (hmc : m ≤ c)
    (el : (vl = none ∧ l = 0) ∨ ∃ x : Int, vl = some (.int .i64 x) ∧ x = l) (eh : (vh = none ∧ h = L.length) ∨ ∃ x : Int, vh = some (.int .i64 x) ∧ x = h) (em : (vm = none ∧ m = c) ∨ (∃ x : Int, vm = some (.int .i64 x) ∧ x = m) ∧ vh ≠ none) :
    ∃ A', (SLs 22 (.slice A L.length c) vl vh vm).run Tryd.prog w = .ok (.slice A' (h - l) (m - l)) w ∧ Byt w A' ((L.drop l).take (h - l)) ∧ (∀ a, A' = some a → ∃ b, A = some b ∧ a.block = b.block) ∧ (A = none → A' = none) := by
  obtain ⟨i, hq, hi⟩ := Option.map_eq_some_iff.1 i5
  refine ⟨if m = l then A else A.map (·.add l), ?_, ⟨fun h0 => ?_, fun x hx => hb.bd x (List.mem_of_mem_drop (List.mem_of_mem_take hx))⟩, ?_, ?_⟩
  · have e1 : ¬ ((h : Int) < 0 ∨ (L.length : Int) < (h : Int)) := by omega
    have b1 : ((0 : Int) ≤ (h : Int) ∧ (h : Int) ≤ (m : Int)) := by omega
    have b2 : ((0 : Int) ≤ (l : Int) ∧ (l : Int) ≤ (h : Int)) := by omega
    have b3 : ((0 : Int) ≤ (m : Int) ∧ (m : Int) ≤ (c : Int)) := by omega
    rcases el with ⟨rfl, rfl⟩ | ⟨x, rfl, rfl⟩ <;> rcases eh with ⟨rfl, rfl⟩ | ⟨y, rfl, rfl⟩ <;> rcases em with ⟨rfl, rfl⟩ | ⟨⟨z, rfl, rfl⟩, hne⟩ <;>
      first
        | (exact absurd rfl hne)
        | (simp [SLs, Instr.sliceAt, Instr.slice, Instr.sliceBounds, Instr.sliceBound, asIntOf, run_underlying u22, sizeOf, typeInfo, hq, hi, hl, hm, hmc])
  · have hlen : 0 < ((L.drop l).take (h - l)).length := h0
    simp only [List.length_take, List.length_drop] at hlen
    obtain ⟨g, o, rfl, hg, hc⟩ := hb.cell (by omega)
    have hadd : (⟨g, o, none⟩ : Addr).add l = ⟨g, o + l, none⟩ := by unfold Addr.add; split <;> simp_all
    refine ⟨g, o + l, ?_, hg, fun j x hx => ?_⟩
    · rw [if_neg (by omega)]
      simp [hadd]
    · rw [List.getElem?_take] at hx
      split at hx
      · rw [List.getElem?_drop] at hx
        rw [Nat.add_assoc]
        exact hc _ x hx
      · cases hx
  · intro a e
    split at e
    · exact ⟨a, e, rfl⟩
    · obtain ⟨b, hb1, rfl⟩ := Option.map_eq_some_iff.1 e
      exact ⟨b, hb1, by unfold Addr.add; split <;> simp_all⟩
  · rintro rfl
    simp

end Go.Proofs.YtohadeijmmmcdaaDoor
end

section
namespace Go.Proofs.YtohadeijmmmcdaaDoor
open Go.RowKit
set_option maxRecDepth 100000

theorem uT : Tryd.prog.underlying 33 = some (.slice 22) := by kernel_rfl
theorem iT : (Tryd.prog.info? 22).map (fun i => (i.zero.map (·.cells.size), i.size, i.bytes)) = some (some 1, 1, 24) := by kernel_rfl

/-- The value x is a slice of the bytes l. -/
def TxV (w : World) (x : Value) (l : List Int) : Prop := ∃ A c, x = .slice A l.length c ∧ Byt w A l ∧ (A = none → c = 0)
theorem TxV.fr {w w' : World} {x : Value} {l : List Int} {F : Nat → Prop} (h : TxV w x l) (hf : Fr F w w') (hn : ∀ k, x.ownBlock = some k → ¬ F k) : TxV w' x l := by
  obtain ⟨A, c, rfl, hb, hc⟩ := h
  exact ⟨A, c, rfl, hb.fr hf (fun a e _ => hn _ (by subst e; rfl)), hc⟩
theorem TxV.one {w : World} {x : Value} {l : List Int} (h : TxV w x l) : x.oneCell' = true := by
  obtain ⟨A, c, rfl, _⟩ := h
  rfl
theorem Byt.below {w w' : World} {A : Option Addr} {l : List Int} (h : Byt w A l) (hb : Below w.heap.size w w') : Byt w' A l :=
  ⟨fun h0 => by
    obtain ⟨g, off, rfl, hg, hc⟩ := h.cell h0
    exact ⟨g, off, rfl, Nat.lt_of_lt_of_le hg hb.size, fun j x hx => (hb.cell (p := ⟨g, off + j, none⟩) hg).trans (hc j x hx)⟩, h.bd⟩
/-- The same with any bound under which the bytes lie. -/
theorem Byt.belowB {n₀ : Nat} {w w' : World} {A : Option Addr} {l : List Int} (h : Byt w A l) (hb : Below n₀ w w') (ha : ∀ a, A = some a → 0 < l.length → a.block < n₀) : Byt w' A l :=
  ⟨fun h0 => by
    obtain ⟨g, off, rfl, hg, hc⟩ := h.cell h0
    exact ⟨g, off, rfl, Nat.lt_of_lt_of_le hg hb.size, fun j x hx => (hb.cell (p := ⟨g, off + j, none⟩) (show g < n₀ from ha ⟨g, off, none⟩ rfl h0)).trans (hc j x hx)⟩, h.bd⟩
theorem TxV.below {w w' : World} {x : Value} {l : List Int} (h : TxV w x l) (hb : Below w.heap.size w w') : TxV w' x l := by
  obtain ⟨A, c, rfl, hy, hc⟩ := h
  exact ⟨A, c, rfl, hy.below hb, hc⟩

/-- From A on lie the values xs, slices of the texts L. -/
structure TxsV (w : World) (A : Option Addr) (xs : List Value) (L : List (List Int)) : Prop where
  len : xs.length = L.length
  cell : 0 < xs.length → ∃ g off, A = some ⟨g, off, none⟩ ∧ g < w.heap.size ∧ ∀ j x, xs[j]? = some x → w.cell? ⟨g, off + j, none⟩ = some x
  txt : ∀ i, (h : i < xs.length) → (h' : i < L.length) → TxV w xs[i] L[i]
theorem TxsV.below {w w' : World} {A : Option Addr} {xs : List Value} {L : List (List Int)} (h : TxsV w A xs L) (hb : Below w.heap.size w w') : TxsV w' A xs L :=
  ⟨h.len, fun h0 => by
    obtain ⟨g, off, rfl, hg, hc⟩ := h.cell h0
    exact ⟨g, off, rfl, Nat.lt_of_lt_of_le hg hb.size, fun j x hx => (hb.cell (p := ⟨g, off + j, none⟩) hg).trans (hc j x hx)⟩, fun i h1 h2 => (h.txt i h1 h2).below hb⟩

/-- An append of values that are laid in a block of their own ahead. -/
theorem appT {ty : TypeId} {B : Nat} {w : World} {v : Value} {n : Nat} {xs : List Value} (h : w.ownsRow B 22 1 v n xs) (news : List Value) (h1 : ∀ u ∈ news, u.oneCell' = true) (hlen : n + news.length ≤ 1000000000) (hB : B ≤ w.heap.size) :
    ∃ v' w', (APs #[33, 33] ty #[v, .slice (some ⟨w.heap.size, 0, none⟩) news.length news.length]).run Tryd.prog (w.alloc (.cells news.toArray 22)) = .ok v' w' ∧
      w'.ownsRow B 22 1 v' (n + news.length) (xs ++ news) ∧ Fr (fun k => v.ownBlock = some k) w w' ∧ Foot w v v' := by
  have hb : Blk (w.alloc (.cells news.toArray 22)) w.heap.size 22 news.toArray := Blk.new w _ _
  obtain ⟨v', w', e1, e2, e3, e4⟩ := APs_own (P := Tryd.prog) (ty := ty) uT iT (by omega) (World.ownsRow.alloc h (.cells news.toArray 22)) (a := ⟨w.heap.size, 0, none⟩) (m := news.length) (c := news.length) news (by omega)
    (fun j u hu => by
      have hadd : (⟨w.heap.size, 0, none⟩ : Addr).add j = ⟨w.heap.size, j, none⟩ := by unfold Addr.add; split <;> simp_all
      rw [hadd, hb.cell j]
      simpa using hu) h1 (by unfold maxLen; omega) (by omega) (by simp; omega)
  refine ⟨v', w', e1, e2, ((Fr.refl _ w).alloc (.cells news.toArray 22)).grown e3 (fun k _ e => e), ?_⟩
  intro j hj
  rcases e4 with e | e
  · exact .inl (e ▸ hj)
  · right
    rw [e] at hj
    simp at hj
    omega

end Go.Proofs.YtohadeijmmmcdaaDoor
end
end
