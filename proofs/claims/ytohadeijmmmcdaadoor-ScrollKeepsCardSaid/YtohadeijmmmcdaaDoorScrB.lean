/-
  scroll's small functions: all zeros, bytes compared, a stretch, its bytes.
  A stretch of a drum, and its bytes.
-/
import Derived.Test.YtohadeijmmmcdaaDoorBytA
import Derived.Test.YtohadeijmmmcdaaDoorScrP
import Derived.Test.YtohadeijmmmcdaaDoorDrumK

section
namespace Go.Proofs.YtohadeijmmmcdaaDoor
open Go.RowKit
set_option maxRecDepth 100000
theorem aps_of (xs : Array Value) (t : TypeId) : Builtin.append_ #[22, 22] t xs = APs #[22, 22] t xs := rfl
attribute [local go_sem ↓] aps_of

set_option maxHeartbeats 1000000 in
theorem zero1_any (x : Int) (w : World) : Calls Tryd.prog 98 #[.int .u8 x] w fun e w' => e = .returned (.bool (x != 0)) ∧ w' = w := by
  go_enter Tryd.func98, Tryd.ntmps98
  go_wp2
  go_ret
  exact ⟨rfl, rfl⟩

/-- The first place that is no zero, or -1. -/
def idxNz : List Int → Nat → Int
  | [], _ => -1
  | x :: l, k => if x != 0 then (k : Int) else idxNz l (k + 1)
theorem idxNz_any : ∀ (l : List Int) (k : Nat), decide (0 ≤ idxNz l k) = l.any (· != 0)
  | [], k => by simp [idxNz]
  | x :: l, k => by
    by_cases h : (x != 0) = true
    · simp only [idxNz, h, if_true, List.any_cons, Bool.true_or]
      simp
    · have h' : (x != 0) = false := by simpa using h
      simp only [idxNz, h', List.any_cons, Bool.false_or]
      exact idxNz_any l (k + 1)

set_option maxHeartbeats 2000000 in
theorem idx_any (A : Option Addr) (c : Nat) (l : List Int) (w : World) (hb : Byt w A l) (hl : l.length ≤ 1000000000) :
    Calls Tryd.prog 107 #[.slice A l.length c, .func (.func 98) #[] #[]] w fun e w' => e = .returned (.int .i64 (idxNz l 0)) ∧ w' = w := by
  obtain ⟨n, hn⟩ : ∃ n, l.length = n := ⟨_, rfl⟩
  rw [hn] at hl ⊢
  have HB := Lib.hid hb
  have HN := Lib.hid hn
  clear hb hn
  go_enter Tryd.func107, Tryd.ntmps107
  go_wp2
  go_loopw [8] (fun t wr => ∃ i : Nat, i ≤ n ∧ t = .int .i64 i ∧ idxNz l 0 = idxNz (l.drop i) i ∧ wr = w)
    (fun t _ => n - (intOf t).toNat)
  case atStart => exact ⟨0, Nat.zero_le _, rfl, rfl, rfl⟩
  case round =>
    obtain ⟨i, hi, rfl, hx, hw⟩ := hrel
    subst hw
    by_cases hlt : i < n
    · have hil : i < l.length := by rw [HN.out]; exact hlt
      obtain ⟨g, o, rfl, _, hc⟩ := HB.out.at_ hil
      have hdr : l.drop i = l[i] :: l.drop (i + 1) := List.drop_eq_getElem_cons hil
      rw [hdr] at hx
      simp only [idxNz] at hx
      obtain ⟨x, hxx⟩ : ∃ x, l[i] = x := ⟨_, rfl⟩
      rw [hxx] at hx hc
      have HX := Lib.hid hx
      clear hx hdr hxx hil
      go_wp2_with fail
      refine (zero1_any x wr).mono ?_
      rintro e w' ⟨rfl, hw⟩
      rw [hw]
      clear hw
      by_cases hz : (x != 0) = true
      · have e := HX.out
        rw [if_pos hz] at e
        have E := Lib.hid e
        clear e
        go_wp2_with fail
        go_ret
        exact ⟨by rw [E.out]; rfl, rfl⟩
      · have hz' : (x != 0) = false := by simpa using hz
        have e := HX.out
        rw [if_neg hz] at e
        have E := Lib.hid e
        clear e hz
        go_wp2_with fail
        go_roundw
        case rel => exact ⟨i + 1, by omega, by go_num, E.out, by first | rfl | trivial⟩
        case measure => simp [intOf]; omega
    · obtain rfl : i = n := by omega
      have e : idxNz (l.drop i) i = -1 := by rw [List.drop_eq_nil_of_le (by rw [HN.out]; exact Nat.le_refl _)]; rfl
      rw [e] at hx
      have HX := Lib.hid hx
      clear hx e
      go_wp2_with fail
      go_ret
      exact ⟨by rw [HX.out]; rfl, rfl⟩

set_option maxHeartbeats 1000000 in
theorem iszero_any (A : Option Addr) (c : Nat) (l : List Int) (w : World) (hb : Byt w A l) (hl : l.length ≤ 1000000000) :
    Calls Tryd.prog 84 #[.slice A l.length c] w fun e w' => e = .returned (.bool (!l.any (· != 0))) ∧ w' = w := by
  have hi := idx_any A c l w hb hl
  obtain ⟨n, hn⟩ : ∃ n, l.length = n := ⟨_, rfl⟩
  rw [hn] at hi ⊢
  obtain ⟨v, hv⟩ : ∃ v, idxNz l 0 = v := ⟨_, rfl⟩
  have ha := idxNz_any l 0
  rw [hv] at ha hi
  have HI := Lib.hid hi
  have HA := Lib.hid ha
  clear hi ha hb hn
  go_enter Tryd.func84, Tryd.ntmps84
  go_wp2_with (first | (go_at_call 97; go_in) | (go_at_call 107; refine HI.out.mono ?_; rintro e w' ⟨rfl, hw⟩; rw [hw]; clear hw))
  first
    | (go_ret; exact ⟨by rw [← HA.out]; rfl, rfl⟩)

set_option maxHeartbeats 2000000 in
theorem equal_any (A1 A2 : Option Addr) (c1 c2 : Nat) (a b : List Int) (w : World) (ha : Byt w A1 a) (hb : Byt w A2 b) (hl : a.length = b.length) (hla : a.length ≤ 1000000000) :
    Calls Tryd.prog 85 #[.slice A1 a.length c1, .slice A2 b.length c2] w fun e w' => e = .returned (.bool (decide (a = b))) ∧ ∃ m, w' = w.drewN m := by
  have hne : ((a.length : Int) != (b.length : Int)) = false := by simp [hl]
  have HL := Lib.hid hl
  have HA := Lib.hid ha
  have HB := Lib.hid hb
  rw [← hl]
  clear hl ha hb hne
  go_enter Tryd.func85, Tryd.ntmps85
  go_wp2
  go_loopw [13] (fun t wr => ∃ i : Nat, i ≤ a.length ∧ t = .int .i64 i ∧ a.take i = b.take i ∧ ∃ m, wr = w.drewN m)
    (fun t _ => a.length - (intOf t).toNat)
  case atStart => exact ⟨0, Nat.zero_le _, rfl, rfl, 0, rfl⟩
  case round =>
    obtain ⟨i, hi, rfl, ht, m, rfl⟩ := hrel
    have HT := Lib.hid ht
    clear ht
    by_cases hlt : i < a.length
    · have hlt2 : i < b.length := by rw [← HL.out]; exact hlt
      obtain ⟨g1, o1, rfl, _, hc1⟩ := HA.out.at_ hlt
      obtain ⟨g2, o2, rfl, _, hc2⟩ := HB.out.at_ hlt2
      have hc1' : w.cell? ⟨g1, o1 + i, none⟩ = some (.int .u8 a[i]) := hc1
      have hc2' : w.cell? ⟨g2, o2 + i, none⟩ = some (.int .u8 b[i]) := hc2
      obtain ⟨x, hx⟩ : ∃ x, a[i] = x := ⟨_, rfl⟩
      obtain ⟨y, hy⟩ : ∃ y, b[i] = y := ⟨_, rfl⟩
      rw [hx] at hc1'
      rw [hy] at hc2'
      have HX := Lib.hid hx
      have HY := Lib.hid hy
      by_cases hxy : x = y
      · have hn : (x != y) = false := by simp [hxy]
        have HXY := Lib.hid hxy
        clear hc1 hc2 hx hy hxy
        go_wp2
        go_region
        go_wp2
        refine ⟨⟨i + 1, by omega, by go_num, take_more hlt hlt2 HT.out (by rw [HX.out, HY.out, HXY.out]), m + 1, rfl⟩, by simp [intOf]; omega⟩
      · have hn : (x != y) = true := by simp [hxy]
        have HXY := Lib.hid hxy
        clear hc1 hc2 hx hy hxy
        go_wp2
        go_region
        go_wp2
        go_ret
        refine ⟨?_, m + 1, rfl⟩
        have hab : a ≠ b := fun e => by
          subst e
          exact HXY.out (HX.out.symm.trans HY.out)
        simp [hab]
    · obtain rfl : i = a.length := by omega
      go_wp2
      go_ret
      have hab : a = b := by
        have h1 := HT.out
        rw [List.take_length, HL.out, List.take_length] at h1
        exact h1
      exact ⟨by simp [hab], m, rfl⟩

end Go.Proofs.YtohadeijmmmcdaaDoor
end

section
namespace Go.Proofs.YtohadeijmmmcdaaDoor
open Go.RowKit
set_option maxRecDepth 100000
attribute [local go_sem ↓] aps_of

theorem own_sl2 (A : Option Addr) (n c n' c' : Nat) : (Value.slice A n c).ownBlock = (Value.slice A n' c').ownBlock := by cases A <;> rfl
/-- Is it a stretch of a drum of n sectors? -/
def strP (n : Nat) (from_ many : Int) : Bool := decide (0 ≤ from_) && decide (0 ≤ many) && decide (many ≤ n) && decide (from_ ≤ n - many)

set_option maxHeartbeats 2000000 in
theorem stretch_any (p gs n : Nat) (wv : Value) (fuse : Int) (off : Bool) (f m : Int) (hm : -9223372036854775808 ≤ m ∧ m ≤ 9223372036854775807) (w : World) (h : DrumB w p (.slice (some ⟨gs, 0, none⟩) n n) wv fuse off) (hn : n ≤ 8192) :
    Calls Tryd.prog 62 #[.pointer (some ⟨p, 0, none⟩), .int .i64 f, .int .i64 m] w fun e w' => e = .returned (.bool (strP n f m)) ∧ w' = w := by
  have hq : ∀ W : World, (binOp .neq 35 (.pointer (some ⟨p, 0, none⟩)) (.pointer none)).run Tryd.prog W = .ok (.bool true) W := fun W => by rfl
  have HLn := Lib.hid (len_any p gs n wv fuse off w h)
  clear h
  have hm1 := hm.1
  have hm2 := hm.2
  by_cases h1 : 0 ≤ f
  · by_cases h2 : 0 ≤ m
    · by_cases h3 : m ≤ n
      · have hw : IntKind.i64.wrap ((n : Int) - m) = (n : Int) - m := by rw [IntKind.wrap_i64]; omega
        go_enter Tryd.func62, Tryd.ntmps62
        go_wp2_with (first | (go_at_call 72; refine HLn.out.mono ?_; rintro e w' ⟨rfl, rfl⟩))
        go_ret
        have e : strP n f m = decide (f ≤ (n : Int) - m) := by simp [strP, h1, h2, h3]
        exact ⟨by rw [e]; rfl, rfl⟩
      · have e : strP n f m = false := by simp [strP, h3]
        have HE := Lib.hid e
        clear e
        go_enter Tryd.func62, Tryd.ntmps62
        go_wp2_with (first | (go_at_call 72; refine HLn.out.mono ?_; rintro e w' ⟨rfl, rfl⟩))
        go_ret
        exact ⟨by rw [HE.out]; rfl, rfl⟩
    · have e : strP n f m = false := by simp [strP, h2]
      have HE := Lib.hid e
      clear e
      go_enter Tryd.func62, Tryd.ntmps62
      go_wp2_with (first | (go_at_call 72; refine HLn.out.mono ?_; rintro e w' ⟨rfl, rfl⟩))
      go_ret
      exact ⟨by rw [HE.out]; rfl, rfl⟩
  · have e : strP n f m = false := by simp [strP, h1]
    have HE := Lib.hid e
    clear e
    go_enter Tryd.func62, Tryd.ntmps62
    go_wp2_with (first | (go_at_call 72; refine HLn.out.mono ?_; rintro e w' ⟨rfl, rfl⟩))
    go_ret
    exact ⟨by rw [HE.out]; rfl, rfl⟩

/-- The bytes of a stretch. -/
def stP (S : DS) (f n : Nat) : List Int := ((List.range n).map fun i => S.now (f + i)).flatten
theorem stP_len {S : DS} (h : S.Ok) (f : Nat) : ∀ n, f + n ≤ S.sure.length → (stP S f n).length = 64 * n
  | 0, _ => by simp [stP]
  | n + 1, hn => by
    have e : stP S f (n + 1) = stP S f n ++ S.now (f + n) := by simp [stP, List.range_succ]
    rw [e, List.length_append, stP_len h f n (by omega), (DS.now_sec h (by omega)).1]
    omega
theorem stP_succ (S : DS) (f n : Nat) : stP S f (n + 1) = stP S f n ++ S.now (f + n) := by simp [stP, List.range_succ]
theorem stP_bd {S : DS} (h : S.Ok) (f : Nat) : ∀ n, f + n ≤ S.sure.length → ∀ x ∈ stP S f n, 0 ≤ x ∧ x ≤ 255
  | 0, _ => by simp [stP]
  | n + 1, hn => by
    intro x hx
    rw [stP_succ, List.mem_append] at hx
    rcases hx with hx | hx
    · exact stP_bd h f n (by omega) x hx
    · exact (DS.now_sec h (by omega)).2 x hx

set_option maxHeartbeats 4000000 in
theorem scbytes_any (B : Nat) (p gs : Nat) (wv : Value) (S : DS) (f n : Nat) (w : World) (h : IsDrum B w p gs wv S) (hf : f + n ≤ S.sure.length) (hlen : S.waits.length ≤ 1000000000) :
    Calls Tryd.prog 63 #[.pointer (some ⟨p, 0, none⟩), .int .i64 (f : Int), .int .i64 (n : Int)] w fun e w' =>
      ∃ v, e = .returned (.tuple #[v, .int .i64 (if S.off then 21 else 0)]) ∧ Own8 w.heap.size w' v (if S.off then [] else stP S f n) ∧ Below w.heap.size w w' := by
  have hn2 := h.ok.n2
  have HON := Lib.hid (on_any p _ wv S.fuse S.off w h.st)
  have H := Lib.hid h
  clear h
  by_cases hoff : S.off = true
  · rw [hoff] at HON ⊢
    go_enter Tryd.func63, Tryd.ntmps63
    go_wp2_with fail
    refine HON.out.mono ?_
    rintro e w' ⟨rfl, rfl⟩
    go_wp2_with fail
    go_ret2
    exact ⟨_, rfl, Own8.nil _ _, Below.refl _ _⟩
  · have hoff : S.off = false := by simpa using hoff
    rw [hoff] at HON ⊢
    have HOF := Lib.hid hoff
    clear hoff
    go_enter Tryd.func63, Tryd.ntmps63
    go_wp2_with fail
    refine HON.out.mono ?_
    rintro e w' ⟨rfl, rfl⟩
    go_wp2_with fail
    go_loopw [8, 16] (fun v t wr => ∃ i : Nat, i ≤ n ∧ t = .int .i64 i ∧ Own8 w.heap.size wr v (stP S f i) ∧ Below w.heap.size w wr)
      (fun _ t _ => n - (intOf t).toNat)
    case atStart => exact ⟨0, Nat.zero_le _, rfl, Own8.nil _ _, Below.refl _ _⟩
    case round =>
      obtain ⟨i, hi, rfl, ho, hb⟩ := hrel
      obtain ⟨A2, c2, rfl⟩ := ho.form
      have hsl := stP_len H.out.ok f i (by omega)
      have HO := Lib.hid ho
      have HB := Lib.hid hb
      rw [hsl]
      have HSL := Lib.hid hsl
      clear ho hb hsl
      by_cases hlt : i < n
      · go_wp2_with fail
        have hd := H.out.fr (Fr.of_below HB.out) (fun k hk h => by have := (H.out.lt hk).2; omega)
        have hr := read_any B p gs wv S ((f + i : Nat) : Int) wr hd hlen
        have e1 : S.read ((f + i : Nat) : Int) = (S.now (f + i), 0) := by
          unfold DS.read
          rw [HOF.out, if_neg (by simp), if_neg (by omega), Int.toNat_natCast]
        rw [e1, Int.natCast_add] at hr
        refine hr.mono ?_
        rintro e w1 ⟨A3, c3, rfl, hnew, hB1⟩
        have h64 : (S.now (f + i)).length = 64 := (DS.now_sec H.out.ok (by omega)).1
        have hA3 : A3 = none → c3 = 0 := by
          rintro rfl
          obtain ⟨g, o, e, _⟩ := hnew.byt.cell (by simp only; rw [h64]; omega)
          cases e
        have ho1 := HO.out.fr (Fr.of_below hB1) (fun k hk h => by have := (HO.out.lt hk).2; omega)
        obtain ⟨v4, w4, hap, ho4, hf4, _⟩ := app8 (ty := 22) (c := c3) ho1 hnew.byt (by rw [HSL.out]; simp only; rw [h64]; omega) (Nat.le_trans HB.out.size hB1.size) hA3
        obtain ⟨A4, c4, rfl⟩ := ho4.form
        simp only [h64, HSL.out, List.length_append] at hap ho4 ⊢
        have HO4 := Lib.hid ho4
        have BB4 := Lib.hid ((HB.out.trans (hB1.mono HB.out.size)).trans (hf4.below (Nat.le_trans HB.out.size hB1.size) (fun k hk e => by have := (HO.out.lt ((own_sl2 A2 _ _ _ _).trans e)).1; omega)))
        clear hr e1 hnew hB1 ho1 ho4 hf4 h64 hA3 hd
        go_wp2_with fail
        go_roundw
        case rel => exact ⟨i + 1, by omega, by go_num, by rw [stP_succ]; exact HO4.out, BB4.out⟩
        case measure => simp [intOf]; omega
      · obtain rfl : i = n := by omega
        go_wp2_with fail
        go_ret2
        refine ⟨_, rfl, ?_, HB.out⟩
        have := HO.out
        rw [HSL.out] at this
        simpa using this

end Go.Proofs.YtohadeijmmmcdaaDoor
end
