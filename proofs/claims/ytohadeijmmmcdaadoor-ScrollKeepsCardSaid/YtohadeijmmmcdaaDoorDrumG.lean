/-
  The drum's Read.
-/
import Derived.Test.YtohadeijmmmcdaaDoorDrumF
namespace Go.Proofs.YtohadeijmmmcdaaDoor
open Go.RowKit
set_option maxRecDepth 100000
attribute [local go_sem ↓] ld62 ld60 st62 st60 al62 al60

theorem now_any (B : Nat) (p gs : Nat) (wv : Value) (S : DS) (k : Nat) (w : World) (h : IsDrum B w p gs wv S) (hk : k < S.sure.length) (hlen : S.waits.length ≤ 1000000000) :
    Calls Tryd.prog 90 #[.pointer (some ⟨p, 0, none⟩), .int .i64 (k : Int)] w fun e w' => e = .returned (.agg (bys (S.now k)).toArray) ∧ Below w.heap.size w w' :=
  callsIn_wide.1 (now_in Fence.wide 6 trivial trivial trivial rfl (by omega) B p gs wv S k w h hk hlen)

set_option maxHeartbeats 1000000 in
theorem read_ok (B : Nat) (p gs : Nat) (wv : Value) (S : DS) (k : Nat) (w : World) (h : IsDrum B w p gs wv S) (hoff : S.off = false) (hk : k < S.sure.length) (hlen : S.waits.length ≤ 1000000000) :
    Calls Tryd.prog 70 #[.pointer (some ⟨p, 0, none⟩), .int .i64 (k : Int)] w fun e w' =>
      ∃ g, (e = .returned (.tuple #[.slice (some ⟨g, 0, none⟩) 64 64, .int .i64 0]) ∧ Blk w' g 119 (bys (S.now k)).toArray ∧ w.heap.size ≤ g ∧ Below w.heap.size w w') := by
  have hst := h.st
  rw [hoff] at hst
  have HIS := Lib.hid (is_yes p gs S.sure.length wv S.fuse false (k : Int) w hst (by omega) (by omega))
  have HN := Lib.hid (now_any B p gs wv S k w h hk hlen)
  have c3 : w.cell? ⟨p, 3, none⟩ = some (.bool false) := hst.c3
  have HS := Lib.hid (DS.now_sec h.ok hk).1
  clear hst h hoff hk
  go_enter Tryd.func70, Tryd.ntmps70
  go_wp2_with fail
  refine HIS.out.mono ?_
  rintro e w0 ⟨rfl, rfl⟩
  go_wp2_with fail
  refine HN.out.mono ?_
  rintro e w1 ⟨rfl, hb⟩
  obtain ⟨sk, hsk⟩ : ∃ sk, S.now k = sk := ⟨_, rfl⟩
  rw [hsk]
  have h64 := HS.out
  rw [hsk] at h64
  obtain ⟨z, hz1, hz2⟩ := Option.map_eq_some_iff.1 z60
  have hal := ALs_new (P := Tryd.prog) (t := 119) z hz1
  obtain ⟨Z, hZ⟩ : ∃ Z, z.cells = Z := ⟨_, rfl⟩
  rw [hZ] at hal hz2
  have hst := STs_new (P := Tryd.prog) (t := 119) i60 w1 Z hz2 (bys sk) (by rw [bys_length, h64]) (bys_one _)
  have HB := Lib.hid hb
  have HSK := Lib.hid hsk
  clear hz1 hZ h64 hsk c3 hb
  go_wp2_with fail
  go_ret2
  exact ⟨w1.heap.size, rfl, by rw [HSK.out]; exact Blk.new _ _ _, HB.out.size, HB.out.alloc HB.out.size _⟩

theorem read_down (p : Nat) (sv wv : Value) (fuse : Int) (k : Int) (w : World) (h : DrumB w p sv wv fuse true) :
    Calls Tryd.prog 70 #[.pointer (some ⟨p, 0, none⟩), .int .i64 k] w fun e w' => e = .returned (.tuple #[.slice none 0 0, .int .i64 21]) ∧ w = w' := by
  have c3 := h.c3
  clear h
  go_enter Tryd.func70, Tryd.ntmps70
  go_wp2_with fail
  go_ret2
  exact ⟨rfl, rfl⟩

theorem read_range (p gs n : Nat) (wv : Value) (fuse : Int) (k : Int) (w : World) (h : DrumB w p (.slice (some ⟨gs, 0, none⟩) n n) wv fuse false) (hk : k < 0 ∨ n ≤ k) :
    Calls Tryd.prog 70 #[.pointer (some ⟨p, 0, none⟩), .int .i64 k] w fun e w' => e = .returned (.tuple #[.slice none 0 0, .int .i64 5]) ∧ w = w' := by
  have c3 := h.c3
  have HIS := Lib.hid (is_no p gs n wv fuse false k w h hk)
  clear h hk
  go_enter Tryd.func70, Tryd.ntmps70
  go_wp2_with fail
  refine HIS.out.mono ?_
  rintro e w0 ⟨rfl, rfl⟩
  go_wp2_with fail
  go_ret2
  exact ⟨rfl, rfl⟩

/-- A new slice of these bytes: nil, or in a block of its own. -/
structure NewB (n₀ : Nat) (w : World) (A : Option Addr) (l : List Int) : Prop where
  byt : Byt w A l
  new : ∀ a, A = some a → n₀ ≤ a.block

theorem Blk.byt {w : World} {g : Nat} {t : TypeId} {l : List Int} (h : Blk w g t (bys l).toArray) (hl : ∀ x ∈ l, 0 ≤ x ∧ x ≤ 255) : Byt w (some ⟨g, 0, none⟩) l :=
  ⟨fun _ => ⟨g, 0, rfl, h.lt, fun j x hx => by rw [h.cell]; simp [bys_get, hx]⟩, hl⟩
theorem Byt.nil (w : World) (A : Option Addr) : Byt w A [] := ⟨fun h => absurd h (by simp), by simp⟩

/-- READ. -/
theorem read_any (B : Nat) (p gs : Nat) (wv : Value) (S : DS) (k : Int) (w : World) (h : IsDrum B w p gs wv S) (hlen : S.waits.length ≤ 1000000000) :
    Calls Tryd.prog 70 #[.pointer (some ⟨p, 0, none⟩), .int .i64 k] w fun e w' =>
      ∃ A c, (e = .returned (.tuple #[.slice A (S.read k).1.length c, .int .i64 (S.read k).2]) ∧ NewB w.heap.size w' A (S.read k).1 ∧ Below w.heap.size w w') := by
  by_cases hoff : S.off = true
  · have e1 : S.read k = ([], 21) := by simp [DS.read, hoff]
    have hst := h.st
    rw [hoff] at hst
    refine (read_down p _ wv _ k w hst).mono ?_
    rintro e w' ⟨rfl, rfl⟩
    rw [e1]
    exact ⟨none, 0, rfl, ⟨Byt.nil _ _, by simp⟩, Below.refl _ _⟩
  have hoff : S.off = false := by simpa using hoff
  have hst := h.st
  rw [hoff] at hst
  by_cases hk : k < 0 ∨ S.sure.length ≤ k
  · have e1 : S.read k = ([], 5) := by simp [DS.read, hoff, hk]
    refine (read_range p gs _ wv _ k w hst hk).mono ?_
    rintro e w' ⟨rfl, rfl⟩
    rw [e1]
    exact ⟨none, 0, rfl, ⟨Byt.nil _ _, by simp⟩, Below.refl _ _⟩
  · have e1 : S.read k = (S.now k.toNat, 0) := by simp [DS.read, hoff, hk]
    have e2 : ((k.toNat : Nat) : Int) = k := by omega
    have hkl : k.toNat < S.sure.length := by omega
    have hr := read_ok B p gs wv S k.toNat w h hoff hkl hlen
    rw [e2] at hr
    refine hr.mono ?_
    rintro e w' ⟨g, rfl, hb, hg, hbl⟩
    have hs := DS.now_sec h.ok hkl
    rw [e1]
    dsimp only
    rw [hs.1]
    exact ⟨some ⟨g, 0, none⟩, 64, rfl, ⟨hb.byt hs.2, fun a e => by cases e; exact hg⟩, hbl⟩

end Go.Proofs.YtohadeijmmmcdaaDoor
