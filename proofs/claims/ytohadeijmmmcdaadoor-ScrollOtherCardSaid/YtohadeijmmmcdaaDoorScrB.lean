/-
  A stretch of a drum, and its bytes.
-/
import Derived.Test.YtohadeijmmmcdaaDoorScrA
import Derived.Test.YtohadeijmmmcdaaDoorDrumK
namespace Go.Proofs.YtohadeijmmmcdaaDoor
open Go.RowKit
set_option maxRecDepth 100000
attribute [local go_sem ↓] aps_of

theorem own_sl2 (A : Option Addr) (n c n' c' : Nat) : (Value.slice A n c).ownBlock = (Value.slice A n' c').ownBlock := by cases A <;> rfl
/-- Is it a stretch of a drum of n sectors? -/
def strP (n : Nat) (from_ many : Int) : Bool := decide (0 ≤ from_) && decide (0 ≤ many) && decide (many ≤ n) && decide (from_ ≤ n - many)

set_option maxHeartbeats 2000000 in
theorem stretch_any (p gs n : Nat) (wv : Value) (fuse : Int) (off : Bool) (f m : Int) (hm : -9223372036854775808 ≤ m ∧ m ≤ 9223372036854775807) (w : World) (h : DrumB w p (.slice (some ⟨gs, 0, none⟩) n n) wv fuse off) (hn : n ≤ 8192) :
    Calls Tryd.prog 62 #[.pointer (some ⟨p, 0, none⟩), .int .i64 f, .int .i64 m] w fun e w' => e = .returned (.bool (strP n f m)) ∧ w' = w := by
  have hq : ∀ W : World, (binOp .neq 35 (.pointer (some ⟨p, 0, none⟩)) (.pointer none)).run Tryd.prog W = .ok (.bool true) W := fun W => by rfl
  have HLn := Lib.hid (len_any p gs n wv fuse off w h)
  clear h
  have hm1 := hm.1
  have hm2 := hm.2
  by_cases h1 : 0 ≤ f
  · by_cases h2 : 0 ≤ m
    · by_cases h3 : m ≤ n
      · have hw : IntKind.i64.wrap ((n : Int) - m) = (n : Int) - m := by rw [IntKind.wrap_i64]; omega
        go_enter Tryd.func62, Tryd.ntmps62
        go_wp2_with (first | (go_at_call 72; refine HLn.out.mono ?_; rintro e w' ⟨rfl, rfl⟩))
        go_ret
        have e : strP n f m = decide (f ≤ (n : Int) - m) := by simp [strP, h1, h2, h3]
        exact ⟨by rw [e]; rfl, rfl⟩
      · have e : strP n f m = false := by simp [strP, h3]
        have HE := Lib.hid e
        clear e
        go_enter Tryd.func62, Tryd.ntmps62
        go_wp2_with (first | (go_at_call 72; refine HLn.out.mono ?_; rintro e w' ⟨rfl, rfl⟩))
        go_ret
        exact ⟨by rw [HE.out]; rfl, rfl⟩
    · have e : strP n f m = false := by simp [strP, h2]
      have HE := Lib.hid e
      clear e
      go_enter Tryd.func62, Tryd.ntmps62
      go_wp2_with (first | (go_at_call 72; refine HLn.out.mono ?_; rintro e w' ⟨rfl, rfl⟩))
      go_ret
      exact ⟨by rw [HE.out]; rfl, rfl⟩
  · have e : strP n f m = false := by simp [strP, h1]
    have HE := Lib.hid e
    clear e
    go_enter Tryd.func62, Tryd.ntmps62
    go_wp2_with (first | (go_at_call 72; refine HLn.out.mono ?_; rintro e w' ⟨rfl, rfl⟩))
    go_ret
    exact ⟨by rw [HE.out]; rfl, rfl⟩

/-- The bytes of a stretch. -/
def stP (S : DS) (f n : Nat) : List Int := ((List.range n).map fun i => S.now (f + i)).flatten
theorem stP_len {S : DS} (h : S.Ok) (f : Nat) : ∀ n, f + n ≤ S.sure.length → (stP S f n).length = 64 * n
  | 0, _ => by simp [stP]
  | n + 1, hn => by
    have e : stP S f (n + 1) = stP S f n ++ S.now (f + n) := by simp [stP, List.range_succ]
    rw [e, List.length_append, stP_len h f n (by omega), (DS.now_sec h (by omega)).1]
    omega
theorem stP_succ (S : DS) (f n : Nat) : stP S f (n + 1) = stP S f n ++ S.now (f + n) := by simp [stP, List.range_succ]
theorem stP_bd {S : DS} (h : S.Ok) (f : Nat) : ∀ n, f + n ≤ S.sure.length → ∀ x ∈ stP S f n, 0 ≤ x ∧ x ≤ 255
  | 0, _ => by simp [stP]
  | n + 1, hn => by
    intro x hx
    rw [stP_succ, List.mem_append] at hx
    rcases hx with hx | hx
    · exact stP_bd h f n (by omega) x hx
    · exact (DS.now_sec h (by omega)).2 x hx

set_option maxHeartbeats 4000000 in
theorem scbytes_any (B : Nat) (p gs : Nat) (wv : Value) (S : DS) (f n : Nat) (w : World) (h : IsDrum B w p gs wv S) (hf : f + n ≤ S.sure.length) (hlen : S.waits.length ≤ 1000000000) :
    Calls Tryd.prog 63 #[.pointer (some ⟨p, 0, none⟩), .int .i64 (f : Int), .int .i64 (n : Int)] w fun e w' =>
      ∃ v, e = .returned (.tuple #[v, .int .i64 (if S.off then 21 else 0)]) ∧ Own8 w.heap.size w' v (if S.off then [] else stP S f n) ∧ Below w.heap.size w w' := by
  have hn2 := h.ok.n2
  have HON := Lib.hid (on_any p _ wv S.fuse S.off w h.st)
  have H := Lib.hid h
  clear h
  by_cases hoff : S.off = true
  · rw [hoff] at HON ⊢
    go_enter Tryd.func63, Tryd.ntmps63
    go_wp2_with fail
    refine HON.out.mono ?_
    rintro e w' ⟨rfl, rfl⟩
    go_wp2_with fail
    go_ret2
    exact ⟨_, rfl, Own8.nil _ _, Below.refl _ _⟩
  · have hoff : S.off = false := by simpa using hoff
    rw [hoff] at HON ⊢
    have HOF := Lib.hid hoff
    clear hoff
    go_enter Tryd.func63, Tryd.ntmps63
    go_wp2_with fail
    refine HON.out.mono ?_
    rintro e w' ⟨rfl, rfl⟩
    go_wp2_with fail
    go_loopw [8, 16] (fun v t wr => ∃ i : Nat, i ≤ n ∧ t = .int .i64 i ∧ Own8 w.heap.size wr v (stP S f i) ∧ Below w.heap.size w wr)
      (fun _ t _ => n - (intOf t).toNat)
    case atStart => exact ⟨0, Nat.zero_le _, rfl, Own8.nil _ _, Below.refl _ _⟩
    case round =>
      obtain ⟨i, hi, rfl, ho, hb⟩ := hrel
      obtain ⟨A2, c2, rfl⟩ := ho.form
      have hsl := stP_len H.out.ok f i (by omega)
      have HO := Lib.hid ho
      have HB := Lib.hid hb
      rw [hsl]
      have HSL := Lib.hid hsl
      clear ho hb hsl
      by_cases hlt : i < n
      · go_wp2_with fail
        have hd := H.out.fr (Fr.of_below HB.out) (fun k hk h => by have := (H.out.lt hk).2; omega)
        have hr := read_any B p gs wv S ((f + i : Nat) : Int) wr hd hlen
        have e1 : S.read ((f + i : Nat) : Int) = (S.now (f + i), 0) := by
          unfold DS.read
          rw [HOF.out, if_neg (by simp), if_neg (by omega), Int.toNat_natCast]
        rw [e1, Int.natCast_add] at hr
        refine hr.mono ?_
        rintro e w1 ⟨A3, c3, rfl, hnew, hB1⟩
        have h64 : (S.now (f + i)).length = 64 := (DS.now_sec H.out.ok (by omega)).1
        have hA3 : A3 = none → c3 = 0 := by
          rintro rfl
          obtain ⟨g, o, e, _⟩ := hnew.byt.cell (by simp only; rw [h64]; omega)
          cases e
        have ho1 := HO.out.fr (Fr.of_below hB1) (fun k hk h => by have := (HO.out.lt hk).2; omega)
        obtain ⟨v4, w4, hap, ho4, hf4, _⟩ := app8 (ty := 22) (c := c3) ho1 hnew.byt (by rw [HSL.out]; simp only; rw [h64]; omega) (Nat.le_trans HB.out.size hB1.size) hA3
        obtain ⟨A4, c4, rfl⟩ := ho4.form
        simp only [h64, HSL.out, List.length_append] at hap ho4 ⊢
        have HO4 := Lib.hid ho4
        have BB4 := Lib.hid ((HB.out.trans (hB1.mono HB.out.size)).trans (hf4.below (Nat.le_trans HB.out.size hB1.size) (fun k hk e => by have := (HO.out.lt ((own_sl2 A2 _ _ _ _).trans e)).1; omega)))
        clear hr e1 hnew hB1 ho1 ho4 hf4 h64 hA3 hd
        go_wp2_with fail
        go_roundw
        case rel => exact ⟨i + 1, by omega, by go_num, by rw [stP_succ]; exact HO4.out, BB4.out⟩
        case measure => simp [intOf]; omega
      · obtain rfl : i = n := by omega
        go_wp2_with fail
        go_ret2
        refine ⟨_, rfl, ?_, HB.out⟩
        have := HO.out
        rw [HSL.out] at this
        simpa using this

end Go.Proofs.YtohadeijmmmcdaaDoor
