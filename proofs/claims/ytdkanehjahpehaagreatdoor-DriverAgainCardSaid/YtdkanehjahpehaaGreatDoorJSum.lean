/-
  sha.Sum.
  sha.Under of one text; scroll.sum.
  sha.Under, of any number of parts.
-/
import Derived.Test.YtdkanehjahpehaaGreatDoorJShaU
import Derived.Test.YtdkanehjahpehaaGreatDoorJCat
import Derived.Test.YtdkanehjahpehaaGreatDoorJChunk
import Derived.Test.YtdkanehjahpehaaGreatDoorJScrB

section
section
namespace Go.Proofs.YtdkanehjahpehaaGreatDoor
open Go.RowKit Go.Shelf
set_option maxRecDepth 100000
attribute [local go_sem] Oper.semAt_some

theorem i123 : (Tryz.prog.info? 48).map (·.size) = some 32 := by kernel_rfl
theorem u123 : Tryz.prog.underlying 48 = some (.array 32 5) := by kernel_rfl
theorem z123 : (((Tryz.prog.info? 48).bind (·.zero)).map (·.cells.toList)) = some (List.replicate 32 (.int .u8 0)) := by kernel_rfl
theorem ld123 (v : Value) : Instr.loadAt 48 v = LDs 48 v := rfl
theorem st123 (v x : Value) : Instr.storeAt 48 v x = STs 48 v x := rfl
theorem al123 : Instr.alloc 48 true (.tuple #[]) = ALs 48 := rfl
attribute [local go_sem ↓] ld123 st123 al123 ld167 st167 al167 ix167 APs_of CPs_of SLs_of

theorem Fr.none_of_own {w w' : World} {n₀ : Nat} {v : Value} (hf : Fr (fun k => v.ownBlock = some k) w w') (hB : n₀ ≤ w.heap.size) (hv : ∀ k, v.ownBlock = some k → n₀ ≤ k) : Below n₀ w w' :=
  hf.below hB (fun k hk e => by have := hv k e; omega)

theorem Own8.head {B n c : Nat} {w : World} {A : Option Addr} {l : List Int} (h : Own8 B w (.slice A n c) l) (h0 : 0 < l.length) (hb : ∀ x ∈ l, 0 ≤ x ∧ x ≤ 255) :
    ∃ g, A = some ⟨g, 0, none⟩ ∧ B ≤ g ∧ g < w.heap.size ∧ n = l.length ∧ l.length ≤ c ∧ c ≤ maxLen ∧ Byt w (some ⟨g, 0, none⟩) l := by
  obtain ⟨A', c', e, hy, _, _⟩ := h.byt hb
  obtain ⟨h1, ⟨h2, h3⟩ | ⟨g, cap, cur, h2, hg, hh, hn, hm, hs, ht⟩⟩ := h
  · omega
  · cases h2
    cases e
    exact ⟨g, rfl, hg, (Array.getElem?_eq_some_iff.1 hh).1, rfl, hn, hm, hy⟩

/-- The blocks that came taken in. -/
def hashL (m : List Int) (K : Nat) (pre : List Nat) : List Int := pre.foldl (fun h k => stepP h ((m.drop (64 * min k (K - 1))).take 64)) H0
theorem hashL_snoc (m : List Int) (K : Nat) (pre : List Nat) (k : Nat) : hashL m K (pre ++ [k]) = stepP (hashL m K pre) ((m.drop (64 * min k (K - 1))).take 64) := by simp [hashL]
theorem hashL_range (m : List Int) (K : Nat) : ∀ k, k ≤ K → hashL m K (List.range k) = hashP m k
  | 0, _ => by rw [hashP_zero]; rfl
  | k + 1, h => by rw [List.range_succ, hashL_snoc, hashL_range m K k (by omega), hashP_succ, Nat.min_eq_left (by omega)]
theorem hashL_len (m : List Int) (K : Nat) (pre : List Nat) : (hashL m K pre).length = 8 := by
  rcases List.eq_nil_or_concat pre with rfl | ⟨q, x, rfl⟩
  · rfl
  · rw [List.concat_eq_append, hashL_snoc, stepP_len]

theorem addN (g off i : Nat) : (⟨g, off, none⟩ : Addr).add i = ⟨g, off + i, none⟩ := by unfold Addr.add; split <;> simp_all
theorem splice_take (cs : Array Value) (o : Nat) (xs : List Value) (h : o ≤ cs.size) : (splice cs o xs).toList.take (o + xs.length) = cs.toList.take o ++ xs := by
  have e : (cs.toList.take o ++ xs).length = o + xs.length := by simp; omega
  show ((cs.toList.take o ++ xs) ++ cs.toList.drop (o + xs.length)).take (o + xs.length) = _
  rw [← e, List.take_left]
theorem hashP_bd (m : List Int) : ∀ k, ∀ x ∈ hashP m k, 0 ≤ x ∧ x ≤ 4294967295
  | 0 => by
    rw [hashP_zero]
    intro x hx
    simp [H0] at hx
    omega
  | k + 1 => by
    rw [hashP_succ]
    intro x hx
    obtain ⟨i, _, rfl⟩ := List.mem_map.1 hx
    omega

set_option maxHeartbeats 8000000 in
theorem sum_any (A : Option Addr) (c : Nat) (xs : List Value) (L : List (List Int)) (w : World) (h : TxsV w A xs L) (hL : L.length ≤ 1000000) (hlen : L.flatten.length ≤ 500000000) (hx : ∀ x ∈ L.flatten, 0 ≤ x ∧ x ≤ 255) (hg : Glob w) :
    Calls Tryz.prog 175 #[.slice A L.length c] w fun e w' => e = .returned (.agg (bys (shaP L.flatten)).toArray) ∧ Below w.heap.size w w' := by
  obtain ⟨z, hz1, hz2⟩ := Option.map_eq_some_iff.1 z123
  have hal := fun W => ALs_new (P := Tryz.prog) (t := 48) z hz1 W
  obtain ⟨Z32, hZ32⟩ : ∃ Z32, z.cells = Z32 := ⟨_, rfl⟩
  have hz32s : Z32.size = 32 := by rw [← hZ32, ← Array.length_toList, hz2]; rfl
  simp only [hZ32] at hal
  obtain ⟨z8, hy1, hy2⟩ := Option.map_eq_some_iff.1 z167
  have hal8 := fun W => ALs_new (P := Tryz.prog) (t := 292) z8 hy1 W
  obtain ⟨Z8, hZ8⟩ : ∃ Z8, z8.cells = Z8 := ⟨_, rfl⟩
  have hz8s : Z8.size = 8 := by rw [← hZ8, ← Array.length_toList, hy2]; rfl
  simp only [hZ8] at hal8
  clear hz1 hz2 hy1 hy2 hZ8 z8 hZ32 z
  obtain ⟨M, hM⟩ : ∃ M, L.flatten = M := ⟨_, rfl⟩
  rw [hM] at hx hlen
  have HT := Lib.hid h
  have HG := Lib.hid hg
  have HX := Lib.hid hx
  have HM := Lib.hid hM
  have HLn := Lib.hid hlen
  clear h hg hx hM
  have hB1 : Below w.heap.size w (w.alloc (.cells Z32 48)) := (Below.refl _ w).alloc (Nat.le_refl _) _
  have hb1 := Blk.new w 48 Z32
  refine (callsIn_wide (n := 8)).1 ?_
  refine callsIn_of_wp_marks Tryz.func175 rfl trivial ?_ rfl
  refine wpIn_wide.2 ?_
  simp only [Tryz.ntmps175, List.size_toArray, List.length_cons, List.length_nil, Nat.reduceAdd, Nat.reduceSub, Array.replicate_succ, Array.replicate_zero, List.push_toArray, List.append_toArray, List.nil_append, List.cons_append]
  go_wp2_with fail
  obtain ⟨W1, hW1⟩ : ∃ W1, w.alloc (.cells Z32 48) = W1 := ⟨_, rfl⟩
  have hsz1 : W1.heap.size = w.heap.size + 1 := by rw [← hW1]; simp
  rw [hW1] at hB1 hb1 ⊢
  clear hW1
  refine (concat_any A c xs L W1 (HT.out.below hB1) hL (by rw [HM.out]; exact HLn.out)).mono ?_
  rintro e W2 ⟨v, rfl, ho, hB2⟩
  rw [HM.out] at ho
  obtain ⟨A1, c1, rfl⟩ := ho.form
  replace hb1 := hb1.fr (Fr.of_below hB2) (by have := hb1.lt; omega)
  have hBB := hB1.trans (hB2.mono hB1.size)
  obtain ⟨v2, W3, hap, ho2, hf2, hft2⟩ := app8_one (ty := 28) (x := 128) ho (by omega) (by omega) hB2.size
  obtain ⟨A0, c0, rfl⟩ := ho2.form
  have hbl2 : Below w.heap.size w W3 := hBB.trans (hf2.below hBB.size (fun k hk e => by have := (ho.lt e).1; have := hB1.size; omega))
  replace hb1 := hb1.fr hf2 (fun e => by have := (ho.lt e).1; omega)
  have HO := Lib.hid ho2
  have HB := Lib.hid hb1
  have HBl := Lib.hid hbl2
  clear ho ho2 hf2 hft2 hb1 hbl2 hBB hB1 hB2
  rw [List.length_append] at hap HO
  go_wp2_with fail
  obtain ⟨n, hn⟩ : ∃ n, M.length = n := ⟨_, rfl⟩
  rw [hn] at HO ⊢
  rw [hn] at HLn
  have HN := Lib.hid hn
  clear hn hap
  obtain ⟨Zn, hZn⟩ : ∃ Zn, (119 - n % 64) % 64 = Zn := ⟨_, rfl⟩
  have HZn := Lib.hid hZn
  clear hZn
  go_loopg [3] Zn (fun k v wr => ∃ z N A2 c2, z + k = Zn ∧ N = n + 1 + z ∧ v = .slice A2 N c2 ∧ Own8 W1.heap.size wr v (M ++ [128] ++ List.replicate z 0) ∧ Blk wr w.heap.size 48 Z32 ∧ Below w.heap.size w wr)
  case atStart => exact ⟨0, n + 1, _, _, by omega, rfl, rfl, by simpa using HO.out, HB.out, HBl.out⟩
  case round =>
    clear HO HB HBl
    obtain ⟨z, N, A2, c2, hz, hN, rfl, ho, hb, hbl⟩ := hrel
    have HO := Lib.hid ho
    have HB := Lib.hid hb
    have HBl := Lib.hid hbl
    have HZ := Lib.hid hz
    have HNN := Lib.hid hN
    have hNb : N ≤ 600000000 := by have := HLn.out; have := HZn.out; omega
    have hlN : (M ++ [128] ++ List.replicate z 0).length = N := by simp [HN.out]; omega
    have hWs : W1.heap.size ≤ wr.heap.size := by have := hb.lt; omega
    have HlN := Lib.hid hlN
    clear hb hbl hz hN
    by_cases hk : z < Zn
    · have hmod : N % 64 ≠ 56 := by have := HNN.out; have := HZn.out; omega
      obtain ⟨v', w', hap, ho', hf', _⟩ := app8_one (ty := 28) (x := 0) ho (by omega) (by rw [hlN]; omega) hWs
      obtain ⟨A3, c3, rfl⟩ := ho'.form
      rw [List.length_append, hlN] at hap ho'
      have HO' := Lib.hid ho'
      have HF' := Lib.hid hf'
      clear ho ho' hf' hlN
      go_wp2_with fail
      go_roundg (Zn - (z + 1))
      case measure => have := HZ.out; omega
      case rel =>
        refine ⟨z + 1, N + 1, _, _, by omega, by have := HNN.out; omega, rfl, ?_, HB.out.fr HF'.out (fun e => by have := (HO.out.lt e).1; omega), HBl.out.trans (HF'.out.below HBl.out.size (fun k hk e => by have := (HO.out.lt e).1; omega))⟩
        rw [List.replicate_succ', ← List.append_assoc]
        exact HO'.out
    · have hmod : N % 64 = 56 := by have := HNN.out; have := HZn.out; have := HZ.out; omega
      have hzz : z = Zn := by have := HZ.out; omega
      have HZZ := Lib.hid hzz
      clear ho hlN hzz
      go_wp2_with fail
      refine (shb_any ((n : Int) * 8) (by omega) (by have := HNN.out; omega) 8 (by omega) wr).mono ?_
      rintro e w4 ⟨rfl, hbk, hbl4⟩
      have hP : M ++ [128] ++ List.replicate z 0 ++ beN ((n : Int) * 8) 8 = padP M := by
        unfold padP
        rw [HZZ.out, ← HZn.out, HN.out, Int.mul_comm]
        simp
      obtain ⟨v5, w5, hap, ho5, hf5, _⟩ := app8 (ty := 28) (c := 8) (HO.out.fr (Fr.of_below hbl4) (fun k hk e => by have := (HO.out.lt hk).2; omega)) (hbk.byt (beN_bd _ _)) (by rw [HlN.out, beN_len]; omega) (Nat.le_trans hWs hbl4.size) (by simp)
      rw [hP] at ho5
      obtain ⟨K, hK⟩ : ∃ K, (padP M).length = 64 * K := ⟨(padP M).length / 64, by have := padP_len M; omega⟩
      have hKb : 64 * K ≤ 700000000 ∧ 1 ≤ K := by
        have e : (padP M).length = N + 8 := by rw [← hP, List.length_append, HlN.out, beN_len]
        omega
      obtain ⟨A5, c5, rfl⟩ := ho5.form
      rw [hK] at hap ho5
      rw [beN_len] at hap
      have hb5 := (HB.out.fr (Fr.of_below hbl4) (by have := HB.out.lt; omega)).fr hf5 (fun e => by have := (HO.out.lt e).1; omega)
      have hB5 := HBl.out.trans ((hbl4.mono HBl.out.size).trans (hf5.below (Nat.le_trans HBl.out.size hbl4.size) (fun k hk e => by have := (HO.out.lt e).1; omega)))
      have hgl := HG.out.below hB5
      have hld : (LDs 292 (.pointer (some ⟨0, 0, none⟩))).run Tryz.prog w5 = .ok (.agg (w32s H0).toArray) w5 :=
        LDs_part w5 _ _ 8 u167 rfl i167 0 0 (w32s H0) rfl (fun j v hv => by
          have hj : j < 8 := by
            have := (List.getElem?_eq_some_iff.1 hv).1
            rwa [show (w32s H0).length = 8 from rfl] at this
          rw [Nat.zero_add, hgl.h j hj]
          simp only [w32s, List.getElem?_map] at hv
          obtain ⟨x, hx, rfl⟩ := Option.map_eq_some_iff.1 hv
          simp [List.getD, hx])
      obtain ⟨HH, hHH⟩ : ∃ HH, w32s H0 = HH := ⟨_, rfl⟩
      have hH8 : HH.length = 8 := by rw [← hHH]; rfl
      have hH1 : ∀ v ∈ HH, v.oneCell' = true := by rw [← hHH]; exact w32s_one _
      rw [hHH] at hld
      have hst := STs_new (P := Tryz.prog) (t := 292) i167 w5 Z8 hz8s HH hH8 hH1
      have hPb : ∀ x ∈ padP M, 0 ≤ x ∧ x ≤ 255 := fun x hx => by
        simp only [padP, List.mem_append, List.mem_cons] at hx
        rcases hx with hx | rfl | hx | hx
        · exact HX.out x hx
        · omega
        · rw [List.eq_of_mem_replicate hx]; omega
        · exact beN_bd _ _ x hx
      obtain ⟨g5, rfl, hg5, hg5l, hdead, hc5, hcm5, hby5⟩ := ho5.head (by rw [hK]; omega) hPb
      rw [hK] at hc5
      have HBY5 := Lib.hid hby5
      have HG5 := Lib.hid hg5l
      have HKL := Lib.hid hK
      clear hPb hby5 hg5l hK hdead
      have HHH := Lib.hid hHH
      have HO5 := Lib.hid ho5
      have HB5 := Lib.hid hb5
      have HBL5 := Lib.hid hB5
      have HGL := Lib.hid hgl
      clear hbk hbl4 hP ho5 hf5 hb5 hB5 hgl hHH
      go_wp2_with fail
      refine (callsIn_wide.1 (chunk_in 5 _ _ _ _)).mono ?_
      rintro e W7 ⟨rfl, hW7⟩
      have q0 : Blk (((w5.alloc (.cells HH.toArray 292)).alloc (.cells #[.slice (some ⟨g5, 0, none⟩) (64 * K) c5] 28)).alloc (.cells #[.int .i64 64] 3)) w5.heap.size 292 HH.toArray := ((Blk.new w5 _ _).alloc _).alloc _
      have q1 := (Blk.new (w5.alloc (.cells HH.toArray 292)) 28 #[.slice (some ⟨g5, 0, none⟩) (64 * K) c5]).alloc (.cells #[.int .i64 64] 3)
      have q2 := Blk.new ((w5.alloc (.cells HH.toArray 292)).alloc (.cells #[.slice (some ⟨g5, 0, none⟩) (64 * K) c5] 28)) 3 #[.int .i64 64]
      have q3 : Below w5.heap.size w5 (((w5.alloc (.cells HH.toArray 292)).alloc (.cells #[.slice (some ⟨g5, 0, none⟩) (64 * K) c5] 28)).alloc (.cells #[.int .i64 64] 3)) := (((Below.refl _ w5).alloc (Nat.le_refl _) _).alloc (by simp) _).alloc (by simp; omega) _
      have q4 : (((w5.alloc (.cells HH.toArray 292)).alloc (.cells #[.slice (some ⟨g5, 0, none⟩) (64 * K) c5] 28)).alloc (.cells #[.int .i64 64] 3)).heap.size = w5.heap.size + 3 := by simp
      simp only [World.size_alloc] at q1 q2
      rw [← hW7] at q0 q1 q2 q3 q4
      clear hW7 hld hst
      simp only [World.size_alloc]
      go_wp2_with fail
      refine (wpIn_wide (n := 8)).1 ?_
      refine wpIn_rangeFunc_ownH rfl (by omega) (gf := 215) (lb := #[.pointer (some ⟨w5.heap.size + 1, 0, none⟩), .pointer (some ⟨w5.heap.size + 1 + 1, 0, none⟩)]) rfl trivial (enters_of Tryz.func215 (by kernel_rfl) rfl)
        (chunk_stops 7 (by omega) (w5.heap.size + 1) (w5.heap.size + 1 + 1) g5 0 c5 K (fun k => k = w5.heap.size ∨ w5.heap.size + 3 ≤ k) (by omega) hc5 hcm5 W7 ⟨by omega, by omega⟩ ⟨by omega, by omega⟩ (q1.cell 0) (q2.cell 0)) frK_t (frK_b (by omega)) (Below.refl _ _) (fun _ => rfl)
        (fun pre W => Blk W w5.heap.size 292 (w32s (hashL (padP M) K pre)).toArray ∧ Fr (fun k => k = w5.heap.size ∨ w5.heap.size + 3 ≤ k) W7 W)
        (fun c pre W => False)
        (fun s X Y row hs hg hr => ⟨hs.1.grown hg (fun e => ?a1), ?a2⟩)
        (fun c s X Y row hs hg hr => hs)
        ⟨?a3, Fr.refl _ _⟩
        (fun x a' W => a' = { tmps := #[.slice A L.length c, undef, .pointer (some ⟨w.heap.size, 0, none⟩), .slice (some ⟨g5, 0, none⟩) (64 * K) c5, .int .u64 ((n : Int) * 8), .pointer (some ⟨w5.heap.size, 0, none⟩), .slice (some ⟨g5, 64 * min x (K - 1), none⟩) 64 64, undef, undef, undef, .slice A L.length c, .slice A1 n c1, .slice A1 n c1, .int .i64 (n : Int), .int .u64 (n : Int), .int .u64 ((n : Int) * 8), .slice A1 n c1, .slice (some ⟨W2.heap.size, 0, none⟩) 1 1, .slice A0 (n + 1) c0, .slice A2 N c2, .int .i64 (N : Int), .int .i64 ((N : Int) % 64), .bool false, u23, u24, u25, .slice A2 N c2, .int .u64 ((n : Int) * 8), .slice (some ⟨wr.heap.size, 0, none⟩) 8 8, .slice (some ⟨g5, 0, none⟩) (64 * K) c5, .agg HH.toArray, .slice (some ⟨g5, 0, none⟩) (64 * K) c5, .func (.func 215) #[] #[.pointer (some ⟨w5.heap.size + 1, 0, none⟩), .pointer (some ⟨w5.heap.size + 1 + 1, 0, none⟩)], .slice (some ⟨g5, 64 * min x (K - 1), none⟩) 64 64, undef, undef, undef, undef, undef, undef, undef, undef, undef, undef, undef, undef, undef, undef, undef, undef, undef], defers := [] })
        (fun x a' s X Y row hs hg hr => hs)
        ?assign ?body ?done ?stop
      case a1 =>
        obtain ⟨h1, _⟩ := hr _ e
        omega
      case a2 => exact hs.2.trans ⟨hg.os, hg.tape, hg.output, hg.size, fun k hk hne => hg.block k hk (fun e => hne (.inr (by have := (hr k e.symm).1; omega)))⟩ (fun _ _ h => h)
      case a3 => rw [show hashL (padP M) K [] = H0 from rfl, HHH.out]; exact q0
      case assign =>
        rintro l pre x W KK ⟨hb, hf⟩ hK
        have hK' := hK { tmps := #[.slice A L.length c, undef, .pointer (some ⟨w.heap.size, 0, none⟩), .slice (some ⟨g5, 0, none⟩) (64 * K) c5, .int .u64 ((n : Int) * 8), .pointer (some ⟨w5.heap.size, 0, none⟩), .slice (some ⟨g5, 64 * min x (K - 1), none⟩) 64 64, undef, undef, undef, .slice A L.length c, .slice A1 n c1, .slice A1 n c1, .int .i64 (n : Int), .int .u64 (n : Int), .int .u64 ((n : Int) * 8), .slice A1 n c1, .slice (some ⟨W2.heap.size, 0, none⟩) 1 1, .slice A0 (n + 1) c0, .slice A2 N c2, .int .i64 (N : Int), .int .i64 ((N : Int) % 64), .bool false, u23, u24, u25, .slice A2 N c2, .int .u64 ((n : Int) * 8), .slice (some ⟨wr.heap.size, 0, none⟩) 8 8, .slice (some ⟨g5, 0, none⟩) (64 * K) c5, .agg HH.toArray, .slice (some ⟨g5, 0, none⟩) (64 * K) c5, .func (.func 215) #[] #[.pointer (some ⟨w5.heap.size + 1, 0, none⟩), .pointer (some ⟨w5.heap.size + 1 + 1, 0, none⟩)], .slice (some ⟨g5, 64 * min x (K - 1), none⟩) 64 64, undef, undef, undef, undef, undef, undef, undef, undef, undef, undef, undef, undef, undef, undef, undef, undef, undef], defers := [] } W (KeepsFrom.refl _ _) (Fr.refl _ _) ⟨hb, hf⟩ rfl
        clear hK
        simp only [encC]
        gi_wp2
        exact hK'
      case body =>
        rintro l pre x a' W hl ⟨r, hr⟩ ⟨hb, hf⟩ rfl hlt
        obtain ⟨j, hj⟩ : ∃ j, min x (K - 1) = j := ⟨_, rfl⟩
        have hjK : j < K := by omega
        rw [hj]
        have hld := LDs_blk (P := Tryz.prog) u167 rfl i167 hb (off := 0) (w32s (hashL (padP M) K pre)) (by rw [w32s_len, hashL_len]) (by simp [List.take_of_length_le, w32s_len, hashL_len])
        have hg7 : Glob W := (HGL.out.below q3).fr hf (by have := HGL.out.size; omega) (by have := HGL.out.size; omega)
        have hby : Byt W (some ⟨g5, 64 * j, none⟩) (((padP M).drop (64 * j)).take 64) := ⟨fun _ => ⟨g5, 64 * j, rfl, by have := hf.size; have := HG5.out; omega, fun i y hy => by
            have e1 := (hf.cell (p := ⟨g5, 64 * j + i, none⟩) (show g5 < _ by have := HG5.out; omega) (show ¬ (g5 = w5.heap.size ∨ w5.heap.size + 3 ≤ g5) by have := HG5.out; omega)).trans (q3.cell (p := ⟨g5, 64 * j + i, none⟩) HG5.out)
            rw [e1]
            obtain ⟨g', o', e2, _, hc⟩ := HBY5.out.cell (by rw [HKL.out]; omega)
            cases e2
            rw [List.getElem?_take] at hy
            split at hy
            · rw [List.getElem?_drop] at hy
              have := hc _ y hy
              simpa [Nat.add_assoc] using this
            · cases hy⟩, fun y hy => HBY5.out.bd y (List.mem_of_mem_drop (List.mem_of_mem_take hy))⟩
        obtain ⟨hv, hhv⟩ : ∃ hv, hashL (padP M) K pre = hv := ⟨_, rfl⟩
        have hl8 : hv.length = 8 := by rw [← hhv, hashL_len]
        rw [hhv] at hld
        have HJ := Lib.hid hj
        have HBb := Lib.hid hb
        have HFf := Lib.hid hf
        have HHV := Lib.hid hhv
        clear hj hb hf hhv
        gi_wp2_with fail
        refine ⟨trivial, ?_⟩
        refine (CallsIn.inRound l (callsIn_wide.2 (step_any (some ⟨g5, 64 * j, none⟩) 64 (Nat.le_refl _) (((padP M).drop (64 * j)).take 64) (by simp [HKL.out]; omega) hv hl8 W hby hg7))).mono ?_
        rintro e W1 ⟨rfl, hB1⟩
        have hb1 := HBb.out.fr (Fr.of_below hB1) (by have := HBb.out.lt; omega)
        have hst := STs_blk (P := Tryz.prog) (t := 292) i167 hb1 (off := 0) (w32s (stepP hv (((padP M).drop (64 * j)).take 64))) (by rw [w32s_len, stepP_len]) (by simp [w32s_len, hashL_len]) (w32s_one _)
        rw [splice_whole _ _ (by simp [w32s_len, hashL_len, stepP_len])] at hst
        have HB1 := Lib.hid hb1
        have HBB1 := Lib.hid hB1
        clear hb1 hB1 hld
        gi_wp2_with fail
        refine ⟨?_, ?_, ?_, ?_⟩
        · have hgb : ∀ cs, W.grownBy (W1.setRow w5.heap.size cs) (some w5.heap.size) := fun cs => ⟨HBB1.out.os, HBB1.out.tape, HBB1.out.output, by simpa using HBB1.out.size, fun k hk hne => (setRow_other W1 w5.heap.size k cs (fun e => hne (by rw [e]))).trans (HBB1.out.block k hk)⟩
          refine KeepsOthers.from (KeepsOthers.of_grownBy (hgb _) (fun j o e ho => ?_)) _
          cases e
          rw [show W.heap[w5.heap.size]? = _ from HBb.out] at ho
          cases ho
          rfl
        · exact ((Fr.of_below HBB1.out).mono (fun k hk h => absurd hk (by omega))).setRow (fun _ => .inl rfl) _
        · rw [hashL_snoc, HHV.out, HJ.out]
          exact HB1.out.row_ _
        · exact HFf.out.trans (((Fr.of_below HBB1.out).mono (G := fun k => k = w5.heap.size ∨ w5.heap.size + 3 ≤ k) (fun k hk h => absurd hk (by omega))).setRow (fun _ => .inl rfl) _) (fun _ _ h => h)
      case done =>
        rintro D ys W hD rfl ⟨hb, hf⟩ hK
        rw [hashL_range _ _ K (Nat.le_refl _)] at hb
        have hb123 : Blk W w.heap.size 48 Z32 := ((HB5.out.fr (Fr.of_below q3) (by have := HB5.out.lt; omega))).fr hf (by have := HB5.out.lt; omega)
        have hBW : Below w.heap.size w W := HBL5.out.trans ((q3.mono HBL5.out.size).trans (hf.below (by have := HB5.out.lt; omega) (fun k hk h => by have := HB5.out.lt; omega)))
        obtain ⟨R, hR⟩ : ∃ R, hashP (padP M) K = R := ⟨_, rfl⟩
        have hRl : R.length = 8 := by rw [← hR, hashP_len]
        rw [hR] at hb
        have HR := Lib.hid hR
        have HRl := Lib.hid hRl
        have HWs : W.heap.size ≥ w5.heap.size + 3 := by have := hf.size; omega
        have HDh := Lib.hid hK
        have HDD := Lib.hid hD
        clear hR hRl hf hK hD
        have hld := LDs_blk (P := Tryz.prog) u167 rfl i167 (hb.alloc (.cells Z32 48)) (off := 0) (w32s R) (by rw [w32s_len, HRl.out]) (by simp [List.take_of_length_le, w32s_len, HRl.out])
        have o0 := Blk.new W 48 Z32
        have o1 := hb123.alloc (.cells Z32 48)
        have o2 := hBW.alloc hBW.size (.cells Z32 48)
        have o3 : (W.alloc (.cells Z32 48)).heap[D]? = some (.deferred (some [])) := (Below.heap_alloc _ _ _ (by have := (Array.getElem?_eq_some_iff.1 HDh.out).1; omega)).trans HDh.out
        have O0 := Lib.hid o0
        have O1 := Lib.hid o1
        have O2 := Lib.hid o2
        have O3 := Lib.hid o3
        have HB := Lib.hid hb
        clear o0 o1 o2 o3 hb hb123 hBW
        have hrb : ∀ x ∈ R, 0 ≤ x ∧ x ≤ 4294967295 := by rw [← HR.out]; exact hashP_bd _ _
        have HRb := Lib.hid hrb
        clear hrb
        go_wp2_with fail
        clear hld
        go_loopg [38] 8 (fun k t wx => ∃ (i : Nat) (cs : Array Value), i ≤ 8 ∧ k = 8 - i ∧ t = .int .i64 i ∧ cs.size = 32 ∧ cs.toList.take (4 * i) = bys ((R.take i).flatMap fun y => beN y 4) ∧
          Blk wx W.heap.size 48 cs ∧ Blk wx w.heap.size 48 Z32 ∧ Below w.heap.size w wx ∧ wx.heap[D]? = some (.deferred (some [])))
        case atStart => exact ⟨0, Z32, Nat.zero_le _, rfl, rfl, hz32s, by simp [bys], O0.out, O1.out, O2.out, O3.out⟩
        case round =>
          clear O0 O1 O2 O3
          obtain ⟨i, cs, hi, hk, rfl, hcs, htk, hbo, hbr, hbl, hD⟩ := hrel
          by_cases hlt : i < 8
          · have hix := fun X => IXs_arr (t := 292) u167 (w32s R).toArray i hlt _ (w32s_at R i (by rw [HRl.out]; exact hlt)) X
            have hxb : 0 ≤ R.getD i 0 ∧ R.getD i 0 ≤ 4294967295 := HRb.out _ (by simp [List.getD, show i < R.length by rw [HRl.out]; exact hlt])
            obtain ⟨x, hx⟩ : ∃ x, R.getD i 0 = x := ⟨_, rfl⟩
            rw [hx] at hix hxb
            obtain ⟨RV, hRV⟩ : ∃ RV, (w32s R).toArray = RV := ⟨_, rfl⟩
            have hsl : ∀ X : World, (SLs 48 (.pointer (some ⟨W.heap.size, 0, none⟩)) (some (.int .i64 (4 * (i : Int)))) none none).run Tryz.prog X = .ok (.slice (some ⟨W.heap.size, 0 + 4 * i, none⟩) (32 - 4 * i) (32 - 4 * i)) X :=
              fun X => SLs_from (P := Tryz.prog) (t := 48) u123 i5 X W.heap.size 0 (4 * i) (4 * (i : Int)) (by omega) (by omega) (by omega)
            simp only [Nat.zero_add] at hsl
            have hx0 := hxb.1
            have hx1 := hxb.2
            have g1 : IntKind.i64.wrap (4 * (i : Int)) = 4 * (i : Int) := by rw [IntKind.wrap_i64]; omega
            have g2 : IntKind.u64.wrap x = x := by rw [IntKind.wrap_u64]; omega
            have HX := Lib.hid hx
            have HCS := Lib.hid hcs
            have HTK := Lib.hid htk
            have HBO := Lib.hid hbo
            have HBR := Lib.hid hbr
            have HBL := Lib.hid hbl
            have HDD2 := Lib.hid hD
            clear hx hcs htk hbo hbr hbl hD hxb hRV RV
            go_wp2_with fail
            go_region_held3 (fun _ => True) (trivial)
              (first
                | (go_at_call 174; refine (shb_any x hx0 (by omega) 4 (by omega) _).mono ?_; rintro e w1 ⟨rfl, hbk, hbl⟩; have hbo1 := (HBO.out.drew).fr (Fr.of_below hbl) (by have := HBO.out.lt; simp; omega); have hcp := CPs_blk (P := Tryz.prog) (dT := 28) (sT := 28) (ty := 3) (elem := 5) Go.Proofs.YtdkanehjahpehaaGreatDoor.u22 i5 hbo1 (o := 4 * i) (dLen := 32 - 4 * i) (dCap := 32 - 4 * i) (a := ⟨wr.heap.size, 0, none⟩) (sLen := 4) (sCap := 4) (bys (beN x 4)) (by rw [bys_length, beN_len]; exact (Nat.min_eq_left (by omega)).symm) (fun j v hv => by rw [addN, Nat.zero_add]; exact (Blk.cell (g := wr.heap.size) hbk j).trans (by simpa using hv)) (by rw [bys_length, beN_len, HCS.out]; omega) (bys_one _); have HBK := Lib.hid hbl; have HBO1 := Lib.hid hbo1; clear hbk hbo1 hbl))
            all_goals
              go_wp2_with fail
              have hwW : w.heap.size < W.heap.size := by have := HB5.out.lt; have := HWs; omega
              have hDl : D < wr.heap.size := (Array.getElem?_eq_some_iff.1 HDD2.out).1
              have hDW : D ≠ W.heap.size := fun e => by
                have h1 := HDD2.out
                rw [e, show wr.heap[W.heap.size]? = _ from HBO.out] at h1
                cases h1
              have hbl := HBK.out
              go_roundg (8 - (i + 1))
              case measure => omega
              case rel =>
                refine ⟨i + 1, splice cs (4 * i) (bys (beN x 4)), by omega, rfl, by go_num, ?_, ?_, HBO1.out.row_ _, ((HBR.out.drew).fr (Fr.of_below hbl) (by have := HBR.out.lt; simp; omega)).rowFar (by omega) _, Below.setRow (HBL.out.drew.trans (hbl.mono HBL.out.size)) (by omega) _, ?_⟩
                · rw [size_splice _ _ _ (by rw [bys_length, beN_len, HCS.out]; omega), HCS.out]
                · have e1 := splice_take cs (4 * i) (bys (beN x 4)) (by rw [HCS.out]; omega)
                  rw [bys_length, beN_len] at e1
                  rw [show 4 * (i + 1) = 4 * i + 4 by omega, e1, HTK.out, List.take_succ_eq_append_getElem (by rw [HRl.out]; exact hlt), List.flatMap_append, bys_app]
                  have e2 : R[i]'(by rw [HRl.out]; exact hlt) = x := by rw [← HX.out]; simp [List.getD, show i < R.length by rw [HRl.out]; exact hlt]
                  rw [e2]
                  simp
                · exact (setRow_other _ _ _ _ hDW).trans ((hbl.block D hDl).trans HDD2.out)
          · obtain rfl : i = 8 := by omega
            have hS : (R.take 8).flatMap (fun y => beN y 4) = shaP M := by
              rw [List.take_of_length_le (by have := HRl.out; omega), ← HR.out]
              unfold shaP
              rw [HKL.out, Nat.mul_div_cancel_left K (by omega)]
            rw [hS] at htk
            have hl32 : (bys (shaP M)).length = 32 := by rw [bys_length, shaP_len]
            have hce : cs = (bys (shaP M)).toArray := by
              apply Array.ext'
              rw [← htk, List.take_of_length_le (by simp [hcs])]
            subst hce
            have hld := LDs_blk (P := Tryz.prog) u123 rfl i123 hbo (off := 0) (bys (shaP M)) hl32 (by simp [List.take_of_length_le, hl32])
            have hst := STs_blk (P := Tryz.prog) (t := 48) i123 hbr (off := 0) (bys (shaP M)) hl32 (by omega) (bys_one _)
            rw [splice_whole _ _ (by rw [hl32, hz32s])] at hst
            have hwW : w.heap.size < W.heap.size := by have := HB5.out.lt; have := HWs; omega
            have hDW : D ≠ w.heap.size := fun e => by
              have h1 := hD
              rw [e, show wr.heap[w.heap.size]? = _ from hbr] at h1
              cases h1
            have HBR := Lib.hid hbr
            have HBL := Lib.hid hbl
            have HDD2 := Lib.hid hD
            have HL32 := Lib.hid hl32
            clear hbo hbr hbl hD hS htk hcs hl32
            go_wp2_with fail
            have hK2 : (wr.setRow w.heap.size (bys (shaP M)).toArray).heap[D]? = some (.deferred (some [])) := (setRow_other _ _ _ _ hDW).trans HDD2.out
            refine ⟨by simp, .inl ⟨_, _, rfl, run_takeDeferred hK2, ?_⟩⟩
            refine ⟨_, results_arr rfl _ _ w.heap.size 48 (bys (shaP M)) _ rfl ((HBR.out.row_ _).putObj hK2 rfl _) u123 rfl (by rw [HL32.out]; exact i123), ?_, ?_⟩
            · rw [HM.out]
            · exact (Below.setRow HBL.out (Nat.le_refl _) _).trans (belowK_b (w := w) (Nat.le_refl _) _ D _ _ (by have := HDD.out; have := HWs; have := HB5.out.lt; omega) hK2 rfl rfl)
      case stop =>
        rintro D c pre W _ _ hF _
        exact hF.elim

end Go.Proofs.YtdkanehjahpehaaGreatDoor
end

section
namespace Go.Proofs.YtdkanehjahpehaaGreatDoor
open Go.RowKit Go.Shelf
set_option maxRecDepth 100000
theorem apT_of (xs : Array Value) (t : TypeId) : Builtin.append_ #[158, 158] t xs = APs #[158, 158] t xs := rfl
attribute [local go_sem ↓] ld123 st123 al123 apT_of SLs_of

theorem beN4 (n : Nat) : beN (n : Int) 4 = be4P n := by
  simp only [beN, be4P, List.range, List.range.loop, List.map]
  simp only [IntKind.wrap_u8', Nat.reduceSub, Nat.reduceMul, Nat.sub_zero]
  refine List.cons_eq_cons.2 ⟨?_, List.cons_eq_cons.2 ⟨?_, List.cons_eq_cons.2 ⟨?_, List.cons_eq_cons.2 ⟨?_, rfl⟩⟩⟩⟩
  all_goals omega

theorem own_cells {base n : Nat} {e : TypeId} {w : World} {v : Value} {xs : List Value} (h : w.ownsRow base e 1 v n xs) (hn : 0 < n) :
    ∃ g cap, v = .slice (some ⟨g, 0, none⟩) n cap ∧ base ≤ g ∧ g < w.heap.size ∧ ∀ j x, xs[j]? = some x → w.cell? ⟨g, 0 + j, none⟩ = some x := by
  have h' := h
  obtain ⟨h1, ⟨h2, h3⟩ | ⟨g, cap, cur, rfl, hg, hh, hl, hm, hs, ht⟩⟩ := h
  · omega
  · refine ⟨g, cap, rfl, hg, (Array.getElem?_eq_some_iff.1 hh).1, fun j x hx => ?_⟩
    have := World.ownsRow.cells h' rfl j x hx
    rw [addN] at this
    exact this

set_option maxHeartbeats 8000000 in
theorem under_one (mark : Int) (hmk : 0 ≤ mark ∧ mark ≤ 255) (g o c : Nat) (Af : Option Addr) (cf : Nat) (hcf : Af = none → cf = 0) (f : List Int) (w : World) (hgw : g < w.heap.size) (hcell : w.cell? ⟨g, o, none⟩ = some (.slice Af f.length cf)) (hf : Byt w Af f) (hlen : f.length ≤ 400000000) (hg : Glob w) :
    Calls Tryz.prog 150 #[.int .u8 mark, .slice (some ⟨g, o, none⟩) 1 c] w fun e w' => e = .returned (.agg (bys (shaP (mark :: (be4P f.length ++ f)))).toArray) ∧ Below w.heap.size w w' := by
  obtain ⟨z, hz1, hz2⟩ := Option.map_eq_some_iff.1 z123
  have hal := ALs_new (P := Tryz.prog) (t := 48) z hz1 w
  obtain ⟨Z32, hZ32⟩ : ∃ Z32, z.cells = Z32 := ⟨_, rfl⟩
  have hz32s : Z32.size = 32 := by rw [← hZ32, ← Array.length_toList, hz2]; rfl
  rw [hZ32] at hal
  clear hZ32 hz1 hz2 z
  have b0 := ((Blk.new w 48 Z32).alloc (.cells #[.int .u8 mark] 5)).alloc (.cells #[.slice (some ⟨w.heap.size + 1, 0, none⟩) 1 1] 28)
  have b1 := (Blk.new (w.alloc (.cells Z32 48)) 5 #[.int .u8 mark]).alloc (.cells #[.slice (some ⟨w.heap.size + 1, 0, none⟩) 1 1] 28)
  have b2 := Blk.new ((w.alloc (.cells Z32 48)).alloc (.cells #[.int .u8 mark] 5)) 28 #[.slice (some ⟨w.heap.size + 1, 0, none⟩) 1 1]
  have B0 : Below w.heap.size w (((w.alloc (.cells Z32 48)).alloc (.cells #[.int .u8 mark] 5)).alloc (.cells #[.slice (some ⟨w.heap.size + 1, 0, none⟩) 1 1] 28)) := (((Below.refl _ w).alloc (Nat.le_refl _) _).alloc (by simp) _).alloc (by simp; omega) _
  simp only [World.size_alloc] at b1 b2
  obtain ⟨W0, hW0⟩ : ∃ W0, ((w.alloc (.cells Z32 48)).alloc (.cells #[.int .u8 mark] 5)).alloc (.cells #[.slice (some ⟨w.heap.size + 1, 0, none⟩) 1 1] 28) = W0 := ⟨_, rfl⟩
  rw [hW0] at b0 b1 b2 B0
  have HMK := Lib.hid hmk
  have HF := Lib.hid hf
  have HG := Lib.hid hg
  have B0h := Lib.hid b0
  have B1h := Lib.hid b1
  have B2h := Lib.hid b2
  have BBh := Lib.hid B0
  have HW0 := Lib.hid hW0
  clear hmk hf hg b0 b1 b2 B0 hW0
  obtain ⟨m, hm⟩ : ∃ m, f.length = m := ⟨_, rfl⟩
  rw [hm] at hcell hlen ⊢
  have HM := Lib.hid hm
  have hm0 : (0 : Int) ≤ (m : Int) := by omega
  clear hm
  have hsz0 : W0.heap.size = w.heap.size + 3 := by rw [← HW0.out]; simp
  have hcell0 : W0.cell? ⟨g, o, none⟩ = some (.slice Af m cf) := (BBh.out.cell (p := ⟨g, o, none⟩) hgw).trans hcell
  have HS0 := Lib.hid hsz0
  clear hsz0
  go_enter Tryz.func150, Tryz.ntmps150
  go_wp2_with fail
  rw [HW0.out]
  clear hal
  go_loopw [5, 13] (fun v t wr => (t = .int .i64 0 ∧ v = .slice (some ⟨w.heap.size + 1 + 1, 0, none⟩) 1 1 ∧ wr = W0) ∨
      (t = .int .i64 1 ∧ ∃ x1, wr.ownsRow (w.heap.size + 2) 28 1 v 3 [.slice (some ⟨w.heap.size + 1, 0, none⟩) 1 1, x1, .slice Af m cf] ∧ TxV wr x1 (be4P m) ∧ Blk wr w.heap.size 48 Z32 ∧ Blk wr (w.heap.size + 1) 5 #[.int .u8 mark] ∧ Below w.heap.size w wr))
    (fun _ t _ => 1 - (intOf t).toNat)
  case atStart => exact .inl ⟨rfl, rfl, rfl⟩
  case round =>
    rcases hrel with ⟨rfl, rfl, rfl⟩ | ⟨rfl, x1, hown, hx1, hb0, hb1, hB⟩
    · go_wp2_with fail
      refine (shb_any (m : Int) (by omega) (by omega) 4 (by omega) wr).mono ?_
      rintro e W1 ⟨rfl, hbk, hbl⟩
      have h2 := B2h.out.fr (Fr.of_below hbl) (by have := B2h.out.lt; omega)
      have hrow : W1.ownsRow (w.heap.size + 2) 28 1 (.slice (some ⟨w.heap.size + 1 + 1, 0, none⟩) 1 1) 1 [.slice (some ⟨w.heap.size + 1, 0, none⟩) 1 1] :=
        ⟨rfl, .inr ⟨w.heap.size + 2, 1, _, rfl, Nat.le_refl _, h2, Nat.le_refl _, by unfold maxLen; omega, rfl, rfl⟩⟩
      obtain ⟨v', w', hap, hown, hfr, _⟩ := appT (ty := 158) hrow [.slice (some ⟨wr.heap.size, 0, none⟩) 4 4, .slice Af m cf] (by intro u hu; simp at hu; rcases hu with rfl | rfl <;> rfl) (by simp) (by have := hbl.size; have := HS0.out; omega)
      simp only [List.length_cons, List.length_nil, Nat.reduceAdd, List.cons_append, List.nil_append] at hap hown
      have hb0 := (B0h.out.fr (Fr.of_below hbl) (by have := B0h.out.lt; omega)).fr hfr (by simp [Value.ownBlock]; omega)
      have hb1 := (B1h.out.fr (Fr.of_below hbl) (by have := B1h.out.lt; omega)).fr hfr (by simp [Value.ownBlock])
      have hx := hbk.fr hfr (by have := HS0.out; simp [Value.ownBlock]; omega)
      have hBB := BBh.out.trans ((hbl.mono BBh.out.size).trans (hfr.below (Nat.le_trans BBh.out.size hbl.size) (by intro k hk; simp [Value.ownBlock]; omega)))
      have HO := Lib.hid hown
      have H0 := Lib.hid hb0
      have H1 := Lib.hid hb1
      have HX := Lib.hid hx
      have HB := Lib.hid hBB
      clear hbk hbl h2 hrow hown hfr hb0 hb1 hx hBB
      go_wp2_with fail
      go_roundw
      case rel =>
        refine .inr ⟨by go_num, _, HO.out, ⟨_, 4, rfl, ?_, by simp⟩, H0.out, H1.out, HB.out⟩
        have e := HX.out
        rw [beN4] at e
        exact e.byt (be4P_bd _)
      case measure => simp [intOf]
    · obtain ⟨g3, cap3, rfl, hg3, hg3l, hc3⟩ := own_cells hown (by omega)
      have hT : TxsV wr (some ⟨g3, 0, none⟩) [.slice (some ⟨w.heap.size + 1, 0, none⟩) 1 1, x1, .slice Af m cf] [[mark], be4P m, f] := ⟨rfl, fun _ => ⟨g3, 0, rfl, hg3l, hc3⟩, fun i h1 h2 => by
        match i, h1 with
        | 0, _ => exact ⟨_, 1, rfl, Blk.byt (l := [mark]) hb1 (by simpa using HMK.out), by simp⟩
        | 1, _ => exact hx1
        | 2, _ => exact ⟨Af, cf, by rw [← HM.out]; rfl, HF.out.below hB, hcf⟩⟩
      have HT := Lib.hid hT
      have HB0 := Lib.hid hb0
      have HB := Lib.hid hB
      have HG' := Lib.hid (HG.out.below hB)
      clear hT hb0 hb1 hB hx1 hown hc3
      go_wp2_with fail
      refine (sum_any (some ⟨g3, 0, none⟩) cap3 _ _ wr HT.out (by simp) (by simp [be4P_len, HM.out]; omega) (by
        intro x hx
        simp only [List.flatten_cons, List.flatten_nil, List.append_nil, List.mem_append, List.mem_singleton] at hx
        rcases hx with rfl | hx | hx
        · exact HMK.out
        · exact be4P_bd _ x hx
        · exact HF.out.bd x hx) HG'.out).mono ?_
      rintro e W5 ⟨rfl, hB5⟩
      have hb5 := HB0.out.fr (Fr.of_below hB5) (by have := HB0.out.lt; omega)
      have hS : [[mark], be4P m, f].flatten = mark :: (be4P m ++ f) := by simp
      rw [hS]
      have hl32 : (bys (shaP (mark :: (be4P m ++ f)))).length = 32 := by rw [bys_length, shaP_len]
      have hst := STs_blk (P := Tryz.prog) (t := 48) i123 hb5 (off := 0) (bys (shaP (mark :: (be4P m ++ f)))) hl32 (by omega) (bys_one _)
      rw [splice_whole _ _ (by rw [hl32, hz32s])] at hst
      have H5 := Lib.hid hb5
      have HB5 := Lib.hid hB5
      have HL := Lib.hid hl32
      clear hb5 hB5 hS hl32
      go_wp2_with fail
      refine bodyPost_ret (results_arr rfl _ _ w.heap.size 48 (bys (shaP (mark :: (be4P m ++ f)))) _ rfl (H5.out.row_ _) u123 rfl (by rw [HL.out]; exact i123)) rfl ?_
      exact ⟨rfl, Below.setRow (HB.out.trans (HB5.out.mono HB.out.size)) (Nat.le_refl _) _⟩

theorem SLs_to {P : Program} {t e : TypeId} {n : Nat} (hu : P.underlying t = some (.array n e)) (hs : (P.info? e).map (·.size) = some 1) (w : World) (g h : Nat) (vh : Int) (eh : vh = h) (hn : h ≤ n) (h0 : 0 < n) :
    (SLs t (.pointer (some ⟨g, 0, none⟩)) none (some (.int .i64 vh)) none).run P w = .ok (.slice (some ⟨g, 0, none⟩) h n) w := by
  subst eh
  obtain ⟨i, hq, hi⟩ := Option.map_eq_some_iff.1 hs
  have hne : ¬ n = 0 := by omega
  simp [SLs, Instr.sliceAt, Instr.sureAddr, Instr.sliceBounds, Instr.sliceBound, asIntOf, run_underlying hu, sizeOf, typeInfo, hq, hn, Addr.add]

end Go.Proofs.YtdkanehjahpehaaGreatDoor
end
end

section
namespace Go.Proofs.YtdkanehjahpehaaGreatDoor
open Go.RowKit Go.Shelf
set_option maxRecDepth 100000

/-- What is summed. -/
def underL (mark : Int) (L : List (List Int)) : List (List Int) := [mark] :: L.flatMap fun l => [be4P l.length, l]
theorem underL_snoc (mark : Int) (L : List (List Int)) (l : List Int) : underL mark (L ++ [l]) = underL mark L ++ [be4P l.length] ++ [l] := by simp [underL]
/-- A digest under a mark. -/
def underP (mark : Int) (L : List (List Int)) : List Int := shaP (underL mark L).flatten
theorem underP_len (mark : Int) (L : List (List Int)) : (underP mark L).length = 32 := shaP_len _
theorem underP_bd (mark : Int) (L : List (List Int)) : ∀ x ∈ underP mark L, 0 ≤ x ∧ x ≤ 255 := shaP_bd _
theorem underL_len (mark : Int) : ∀ L : List (List Int), (underL mark L).length = 1 + 2 * L.length
  | [] => rfl
  | l :: L => by
    have := underL_len mark L
    simp only [underL, List.length_cons, List.flatMap_cons, List.length_append, List.length_nil] at this ⊢
    omega
theorem underL_flen (mark : Int) : ∀ L : List (List Int), (underL mark L).flatten.length = 1 + 4 * L.length + L.flatten.length
  | [] => rfl
  | l :: L => by
    have := underL_flen mark L
    simp only [underL, List.flatten_cons, List.length_append, List.length_cons, List.flatMap_cons, List.cons_append, List.nil_append, be4P_len] at this ⊢
    omega
theorem underL_bd {mark : Int} (hm : 0 ≤ mark ∧ mark ≤ 255) {L : List (List Int)} (hL : ∀ l ∈ L, ∀ x ∈ l, 0 ≤ x ∧ x ≤ 255) : ∀ x ∈ (underL mark L).flatten, 0 ≤ x ∧ x ≤ 255 := by
  intro x hx
  simp only [underL, List.flatten_cons, List.mem_append, List.mem_flatten, List.mem_flatMap, List.mem_cons, List.not_mem_nil, or_false] at hx
  rcases hx with rfl | ⟨l, ⟨l', hl', rfl | rfl⟩, hx⟩
  · exact hm
  · exact be4P_bd _ x hx
  · exact hL _ hl' x hx

/-- Texts that lie below n₀, or in blocks of bytes. -/
structure TxE (n₀ : Nat) (w : World) (xs : List Value) (L : List (List Int)) : Prop where
  len : xs.length = L.length
  txt : ∀ i (h : i < xs.length) (h' : i < L.length), TxV w xs[i] L[i] ∧ ∀ k, xs[i].ownBlock = some k → 0 < L[i].length → k < n₀ ∨ ∃ cs, Blk w k 5 cs
theorem TxE.snoc {n₀ : Nat} {w : World} {xs : List Value} {L : List (List Int)} {x : Value} {l : List Int} (h : TxE n₀ w xs L) (hx : TxV w x l) (hb : ∀ k, x.ownBlock = some k → 0 < l.length → k < n₀ ∨ ∃ cs, Blk w k 5 cs) : TxE n₀ w (xs ++ [x]) (L ++ [l]) := by
  refine ⟨by simp [h.len], fun i hi hi' => ?_⟩
  by_cases hlt : i < xs.length
  · have hlt' : i < L.length := by rw [← h.len]; exact hlt
    rw [List.getElem_append_left hlt, List.getElem_append_left hlt']
    exact h.txt i hlt hlt'
  · have e : i = xs.length := by simp at hi; omega
    subst e
    simp only [List.getElem_append_right (Nat.le_refl _), Nat.sub_self, List.getElem_cons_zero]
    simp only [h.len, List.getElem_append_right (Nat.le_refl _), Nat.sub_self, List.getElem_cons_zero]
    exact ⟨hx, hb⟩
theorem TxE.fr {n₀ : Nat} {w w' : World} {xs : List Value} {L : List (List Int)} {F : Nat → Prop} (h : TxE n₀ w xs L) (hf : Fr F w w') (h1 : ∀ k, k < n₀ → ¬ F k) (h2 : ∀ k cs, F k → ¬ Blk w k 5 cs) : TxE n₀ w' xs L := by
  refine ⟨h.len, fun i hi hi' => ?_⟩
  obtain ⟨a, b⟩ := h.txt i hi hi'
  have hn : ∀ k, (xs[i]).ownBlock = some k → 0 < (L[i]).length → ¬ F k := fun k hk h0 hF => by
    rcases b k hk h0 with h3 | ⟨cs, h3⟩
    · exact h1 k h3 hF
    · exact h2 k cs hF h3
  refine ⟨?_, fun k hk h0 => (b k hk h0).imp id (fun ⟨cs, h3⟩ => ⟨cs, h3.fr hf (hn k hk h0)⟩)⟩
  obtain ⟨A, c, e, hb, hc⟩ := a
  exact ⟨A, c, e, hb.fr hf (fun a' ha h0 => hn _ (by rw [e, ha]; rfl) h0), hc⟩
theorem own_slU (A : Option Addr) (n c n' c' : Nat) : (Value.slice A n c).ownBlock = (Value.slice A n' c').ownBlock := by cases A <;> rfl
theorem TxE.txs {n₀ : Nat} {w : World} {xs : List Value} {L : List (List Int)} {A : Option Addr} (h : TxE n₀ w xs L) (hc : 0 < xs.length → ∃ g off, A = some ⟨g, off, none⟩ ∧ g < w.heap.size ∧ ∀ j x, xs[j]? = some x → w.cell? ⟨g, off + j, none⟩ = some x) : TxsV w A xs L :=
  ⟨h.len, hc, fun i h1 h2 => (h.txt i h1 h2).1⟩

section
attribute [local go_sem ↓] ld123 st123 al123 apT_of SLs_of
set_option maxHeartbeats 8000000 in
theorem under_any (mark : Int) (hmk : 0 ≤ mark ∧ mark ≤ 255) (A : Option Addr) (c : Nat) (xs : List Value) (L : List (List Int)) (w : World) (hT : TxsV w A xs L) (hX : ∀ i (h : i < xs.length) (h' : i < L.length) k, xs[i].ownBlock = some k → 0 < L[i].length → k < w.heap.size) (hn : L.length ≤ 1000) (hlen : L.flatten.length ≤ 400000000) (hbd : ∀ l ∈ L, ∀ x ∈ l, 0 ≤ x ∧ x ≤ 255) (hg : Glob w) :
    Calls Tryz.prog 150 #[.int .u8 mark, .slice A L.length c] w fun e w' => e = .returned (.agg (bys (underP mark L)).toArray) ∧ Below w.heap.size w w' := by
  obtain ⟨z, hz1, hz2⟩ := Option.map_eq_some_iff.1 z123
  have hal := ALs_new (P := Tryz.prog) (t := 48) z hz1 w
  obtain ⟨Z32, hZ32⟩ : ∃ Z32, z.cells = Z32 := ⟨_, rfl⟩
  have hz32s : Z32.size = 32 := by rw [← hZ32, ← Array.length_toList, hz2]; rfl
  rw [hZ32] at hal
  clear hZ32 hz1 hz2 z
  have b0 := ((Blk.new w 48 Z32).alloc (.cells #[.int .u8 mark] 5)).alloc (.cells #[.slice (some ⟨w.heap.size + 1, 0, none⟩) 1 1] 28)
  have b1 := (Blk.new (w.alloc (.cells Z32 48)) 5 #[.int .u8 mark]).alloc (.cells #[.slice (some ⟨w.heap.size + 1, 0, none⟩) 1 1] 28)
  have b2 := Blk.new ((w.alloc (.cells Z32 48)).alloc (.cells #[.int .u8 mark] 5)) 28 #[.slice (some ⟨w.heap.size + 1, 0, none⟩) 1 1]
  have B0 : Below w.heap.size w (((w.alloc (.cells Z32 48)).alloc (.cells #[.int .u8 mark] 5)).alloc (.cells #[.slice (some ⟨w.heap.size + 1, 0, none⟩) 1 1] 28)) := (((Below.refl _ w).alloc (Nat.le_refl _) _).alloc (by simp) _).alloc (by simp; omega) _
  simp only [World.size_alloc] at b1 b2
  obtain ⟨W0, hW0⟩ : ∃ W0, ((w.alloc (.cells Z32 48)).alloc (.cells #[.int .u8 mark] 5)).alloc (.cells #[.slice (some ⟨w.heap.size + 1, 0, none⟩) 1 1] 28) = W0 := ⟨_, rfl⟩
  rw [hW0] at b0 b1 b2 B0
  have hsz0 : W0.heap.size = w.heap.size + 3 := by rw [← hW0]; simp
  have hrow0 : W0.ownsRow (w.heap.size + 1) 28 1 (.slice (some ⟨w.heap.size + 1 + 1, 0, none⟩) 1 1) 1 [.slice (some ⟨w.heap.size + 1, 0, none⟩) 1 1] :=
    ⟨rfl, .inr ⟨w.heap.size + 1 + 1, 1, _, rfl, by omega, b2, Nat.le_refl _, by unfold maxLen; omega, rfl, rfl⟩⟩
  have hE0 : TxE w.heap.size W0 [.slice (some ⟨w.heap.size + 1, 0, none⟩) 1 1] (underL mark (L.take 0)) := ⟨rfl, fun i h1 h2 => by
    obtain rfl : i = 0 := by simpa using h1
    exact ⟨⟨_, 1, rfl, Blk.byt (l := [mark]) b1 (by simpa using hmk), by simp⟩, fun k hk _ => by
      simp [Value.ownBlock] at hk
      subst hk
      exact .inr ⟨_, b1⟩⟩⟩
  obtain ⟨n, hnL⟩ : ∃ n, L.length = n := ⟨_, rfl⟩
  have HT := Lib.hid hT
  have HX := Lib.hid hX
  have HG := Lib.hid hg
  have HMK := Lib.hid hmk
  have HBD := Lib.hid hbd
  have HLEN := Lib.hid hlen
  have HW0 := Lib.hid hW0
  have HS0 := Lib.hid hsz0
  have H0 := Lib.hid b0
  have HB0 := Lib.hid B0
  have HR0 := Lib.hid hrow0
  have HE0 := Lib.hid hE0
  have HN := Lib.hid hnL
  rw [hnL] at hn ⊢
  clear hT hX hg hmk hbd hlen hW0 hsz0 b0 b1 b2 B0 hrow0 hE0 hnL
  go_enter Tryz.func150, Tryz.ntmps150
  go_wp2_with fail
  rw [HW0.out]
  clear hal
  go_loopg [5, 7, 13] n (fun kk v _ t wr => ∃ (i : Nat) (A5 : Option Addr) (c5 : Nat) (ys : List Value), i + kk = n ∧ t = .int .i64 (i : Int) ∧ v = .slice A5 (1 + 2 * i) c5 ∧ wr.ownsRow (w.heap.size + 1) 28 1 v (1 + 2 * i) ys ∧ TxE w.heap.size wr ys (underL mark (L.take i)) ∧ Blk wr w.heap.size 48 Z32 ∧ Below w.heap.size w wr)
  case atStart => exact ⟨0, _, _, _, by omega, rfl, rfl, HR0.out, HE0.out, H0.out, HB0.out⟩
  case round =>
    obtain ⟨i, A5, c5, ys, hi, rfl, rfl, hown, hE, hb0, hB⟩ := hrel
    by_cases hlt : i < n
    · have hltI : (i : Int) < (n : Int) := by omega
      have hx1 : i < xs.length := by rw [HT.out.len, HN.out]; exact hlt
      have hl1 : i < L.length := by rw [HN.out]; exact hlt
      obtain ⟨ga, oa, rfl, hga, hca⟩ := HT.out.cell (by omega)
      obtain ⟨Ai, ci, hxi, hyi, hni⟩ := HT.out.txt i hx1 hl1
      have hXi := HX.out i hx1 hl1
      have hci := hca i xs[i] (by simp [hx1])
      rw [hxi] at hci hXi
      have hc' : wr.cell? ⟨ga, oa + i, none⟩ = some (.slice Ai (L[i]).length ci) := (hB.cell (p := ⟨ga, oa + i, none⟩) hga).trans hci
      have hli : (L[i]).length ≤ 400000000 := by
        have h1 := HLEN.out
        have h2 : (L[i]).length ≤ L.flatten.length := List.Sublist.length_le (List.sublist_flatten_of_mem (List.getElem_mem hl1))
        omega
      have htk : L.take (i + 1) = L.take i ++ [L[i]] := List.take_succ_eq_append_getElem hl1
      obtain ⟨l, hl⟩ : ∃ l, L[i] = l := ⟨_, rfl⟩
      rw [hl] at hc' hli htk hyi hXi
      obtain ⟨m, hm⟩ : ∃ m, l.length = m := ⟨_, rfl⟩
      rw [hm] at hc' hli
      have HOWN := Lib.hid hown
      have HE := Lib.hid hE
      have HI0 := Lib.hid hb0
      have HB := Lib.hid hB
      have HY := Lib.hid hyi
      have HNI := Lib.hid hni
      have HXI := Lib.hid hXi
      have HTK := Lib.hid htk
      have HM := Lib.hid hm
      clear hown hE hb0 hB hyi hni hXi htk hm hl hxi hci hca
      have hsb := shb_any (m : Int) (by omega) (by omega) 4 (by omega) wr
      rw [show ((4 : Nat) : Int) = 4 from rfl] at hsb
      go_wp2_with fail
      with_reducible refine hsb.mono ?_
      rintro e W1 ⟨rfl, hbk, hbl⟩
      have hown1 := own_fr HOWN.out (Fr.of_below hbl) (fun k hk h => by have := (World.ownsRow.lt HOWN.out k hk).2; omega)
      have hw1 := hbl.size
      have hBs := HB.out.size
      have hws : w.heap.size < wr.heap.size := HI0.out.lt
      obtain ⟨v', w', hap, hown2, hfr, _⟩ := appT (ty := 158) hown1 [.slice (some ⟨wr.heap.size, 0, none⟩) 4 4, .slice Ai m ci] (by intro u hu; simp at hu; rcases hu with rfl | rfl <;> rfl) (by simp; omega) (by omega)
      simp only [List.length_cons, List.length_nil, Nat.reduceAdd] at hap hown2
      obtain ⟨A6, c6, rfl⟩ := own_form hown2
      have hF : ∀ k cs, (Value.slice A5 (1 + 2 * i) c5).ownBlock = some k → ¬ Blk W1 k 5 cs := fun k cs hk hb => by
        obtain ⟨cs', hb', _⟩ := own_blk hown1 hk
        exact absurd (hb.inj hb').1 (by decide)
      have hF0 : ∀ k, k < w.heap.size + 1 → ¬ (Value.slice A5 (1 + 2 * i) c5).ownBlock = some k := fun k hk e => by have := (World.ownsRow.lt hown1 k e).1; omega
      have hE1 := HE.out.fr (Fr.of_below hbl) (fun k hk h => by omega) (fun k cs h hb => by have := hb.lt; omega)
      have hE2 := hE1.fr hfr (fun k hk => hF0 k (by omega)) hF
      have hbk2 := hbk.fr hfr (hF _ _ · hbk)
      have hy2 : Byt w' Ai l := (HY.out.below HB.out).below hbl |>.fr hfr (fun a ha h0 e => by
        have := HXI.out a.block (by rw [ha]; rfl) (by rw [HM.out] at h0 ⊢; exact h0)
        exact hF0 _ (by omega) e)
      have hE3 := (hE2.snoc (x := .slice (some ⟨wr.heap.size, 0, none⟩) 4 4) (l := be4P m) ⟨_, 4, rfl, by rw [beN4] at hbk2; exact hbk2.byt (be4P_bd _), by simp⟩ (fun k hk _ => by
        simp [Value.ownBlock] at hk
        subst hk
        exact .inr ⟨_, hbk2⟩)).snoc (x := .slice Ai m ci) (l := l) ⟨Ai, ci, by rw [HM.out], hy2, HNI.out⟩ (fun k hk h0 => .inl (HXI.out k ((own_slU Ai _ _ _ _).trans hk) h0))
      have hU : underL mark (L.take (i + 1)) = underL mark (L.take i) ++ [be4P m] ++ [l] := by rw [HTK.out, underL_snoc, HM.out]
      rw [← hU] at hE3
      have hi2 := (HI0.out.fr (Fr.of_below hbl) (by omega)).fr hfr (hF0 _ (by omega))
      have hB2 := HB.out.trans ((hbl.mono hBs).trans (hfr.below (by omega) (fun k hk => hF0 k (by omega))))
      have HE3 := Lib.hid hE3
      have HO2 := Lib.hid hown2
      have HI2 := Lib.hid hi2
      have HB2 := Lib.hid hB2
      clear hsb hbk hbl hown1 hfr hF hF0 hE1 hE2 hbk2 hy2 hE3 hU hi2 hB2 hown2 HOWN HE HI0 HY HNI HXI HTK HM hw1 hBs hws
      go_wp2_with fail
      go_roundg (n - (i + 1))
      case measure => omega
      case rel => exact ⟨i + 1, A6, c6, _, by omega, by go_num, rfl, HO2.out, by simpa using HE3.out, HI2.out, HB2.out⟩
    · obtain rfl : i = n := by omega
      have hltI : ¬ (i : Int) < (i : Int) := by omega
      rw [List.take_of_length_le (by rw [HN.out]; exact Nat.le_refl _)] at hE
      have hUl := underL_len mark L
      rw [HN.out] at hUl
      have hTT := hE.txs (A := A5) (fun h0 => by
        obtain ⟨g3, cap3, e, _, hg3, hc3⟩ := own_cells hown (by omega)
        simp only [Value.slice.injEq] at e
        exact ⟨g3, 0, e.1, hg3, hc3⟩)
      have hsum := sum_any A5 c5 ys (underL mark L) wr hTT (by omega) (by rw [underL_flen, HN.out]; have := HLEN.out; omega) (underL_bd HMK.out HBD.out) (HG.out.below hB)
      rw [hUl] at hsum
      have HB := Lib.hid hB
      have HI0 := Lib.hid hb0
      clear hTT hE hown hUl hB hb0
      go_wp2_with fail
      with_reducible refine hsum.mono ?_
      rintro e W5 ⟨rfl, hB5⟩
      have hb5 := HI0.out.fr (Fr.of_below hB5) (by have := HI0.out.lt; omega)
      have hl32 : (bys (underP mark L)).length = 32 := by rw [bys_length, underP_len]
      have hst := STs_blk (P := Tryz.prog) (t := 48) i123 hb5 (off := 0) (bys (underP mark L)) hl32 (by omega) (bys_one _)
      rw [splice_whole _ _ (by rw [hl32, hz32s])] at hst
      rw [show shaP (underL mark L).flatten = underP mark L from rfl]
      have H5 := Lib.hid hb5
      have HB5 := Lib.hid hB5
      have HL := Lib.hid hl32
      clear hb5 hB5 hl32 hsum
      go_wp2_with fail
      refine bodyPost_ret (results_arr rfl _ _ w.heap.size 48 (bys (underP mark L)) _ rfl (H5.out.row_ _) u123 rfl (by rw [HL.out]; exact i123)) rfl ?_
      exact ⟨rfl, Below.setRow (HB.out.trans (HB5.out.mono HB.out.size)) (Nat.le_refl _) _⟩
end
end Go.Proofs.YtdkanehjahpehaaGreatDoor
end
