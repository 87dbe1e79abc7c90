/-
  scroll.read: the record with which bytes begin; no bytes, or too few.
-/
import Derived.Test.YtohadeijmmmcdaaDoorRead2
import Derived.Test.YtohadeijmmmcdaaDoorScrB
import Derived.Test.YtohadeijmmmcdaaDoorForm
import Derived.Test.YtohadeijmmmcdaaDoorHeads
import Derived.Deep.RegionHeld3
namespace Go.Proofs.YtohadeijmmmcdaaDoor
open Go.RowKit
set_option maxRecDepth 100000

theorem ld115_of (v : Value) : Instr.loadAt 115 v = LDs 115 v := rfl
theorem st115_of (v x : Value) : Instr.storeAt 115 v x = STs 115 v x := rfl
theorem al115_of : Instr.alloc 115 true (.tuple #[]) = ALs 115 := rfl
theorem bd115_of (parts : Array (Nat × Value)) : Instr.build 115 parts = BDs 115 parts := rfl
theorem slr_of (x : Value) (lo hi mx : Option Value) : Instr.sliceAt 22 x lo hi mx = SLs 22 x lo hi mx := rfl
attribute [local go_sem ↓] ld115_of st115_of al115_of bd115_of slr_of
theorem i115 : (Tryd.prog.info? 115).map (·.size) = some 4 := by kernel_rfl
theorem u115 : (Tryd.prog.underlying 115).map isAggD = some true := by kernel_rfl
theorem z115 : (Tryd.prog.info? 115).bind (·.zero) = some (.agg #[.int .i64 0, .int .i64 0, .int .i64 0, .slice none 0 0]) := by kernel_rfl
theorem bd115_0 (W : World) : (BDs 115 #[]).run Tryd.prog W = .ok (.agg #[.int .i64 0, .int .i64 0, .int .i64 0, .slice none 0 0]) W := by kernel_rfl
theorem bd115_2 (s : Int) (W : World) : (BDs 115 #[(2, .int .i64 s)]).run Tryd.prog W = .ok (.agg #[.int .i64 0, .int .i64 0, .int .i64 s, .slice none 0 0]) W := by kernel_rfl

/-- What is behind the reading of a record. -/
def ReadPost (n₀ : Nat) (R : Option RecP) (e : Ending) (w' : World) : Prop :=
  match R with
  | none => ∃ a b c v, v.oneCell' = true ∧ e = .returned (.tuple #[.agg #[.int .i64 a, .int .i64 b, .int .i64 c, v], .bool false])
  | some r => ∃ v, e = .returned (.tuple #[.agg #[.int .i64 (r.t : Int), .int .i64 (r.n : Int), .int .i64 (r.size : Int), v], .bool true]) ∧ Own8 n₀ w' v r.b

theorem results_cell_tmp {P : Program} {fn : Func} {p q : Tmp} {ty : TypeId} (h : fn.results = #[.cell p ty, .tmp q]) (tmps : Array Value) (w : World) (g : Nat) (t : TypeId) (cs : Array Value) (fr : Nat × Nat) {d : TypeDesc}
    (hg : w.heap[g]? = some (.cells cs t fr)) (hu : P.underlying ty = some d) (hd : isAggD d = true) (hi : (P.info? ty).map (·.size) = some cs.size)
    (hp : tmps.getD p undef = .pointer (some ⟨g, 0, none⟩)) {v : Value} (hq : tmps.getD q undef = v := by rfl) :
    (results fn tmps).run P w = .ok (.tuple #[.agg cs, v]) w := by
  have hp' : tmps[p]?.getD undef = .pointer (some ⟨g, 0, none⟩) := by simpa using hp
  have hq' : tmps[q]?.getD undef = v := by simpa using hq
  simp [results, h, hp', hq', asAddr, run_loadVar_row w g t ty cs fr d hg hu (by cases d <;> simp_all [isAggD]) hi]
theorem u115x : ∃ d, Tryd.prog.underlying 115 = some d ∧ isAggD d = true := Option.map_eq_some_iff.1 u115

theorem i64_or_nat (a b : Nat) (ha : a < 4611686018427387904) (hb : b < 4611686018427387904) : bits .or .i64 (a : Int) (b : Int) = ((a ||| b : Nat) : Int) := by
  have hx : a ||| b < 2 ^ 62 := Nat.or_lt_two_pow (by omega) (by omega)
  show IntKind.i64.wrap ((BitVec.ofInt 64 (a : Int) ||| BitVec.ofInt 64 (b : Int)).toNat : Int) = _
  rw [BitVec.toNat_or, ofInt_u64 a (by omega), ofInt_u64 b (by omega), IntKind.wrap_i64]
  omega
theorem or_at (a c i : Nat) (hc : c < 2 ^ i) : a * 2 ^ i ||| c = a * 2 ^ i + c := by
  have e := Nat.shiftLeft_add_eq_or_of_lt (i := i) (b := c) hc a
  rw [Nat.shiftLeft_eq] at e
  exact e.symm
theorem word_or (a0 a1 a2 a3 : Int) (l0 : 0 ≤ a0) (u0 : a0 ≤ 255) (l1 : 0 ≤ a1) (u1 : a1 ≤ 255) (l2 : 0 ≤ a2) (u2 : a2 ≤ 255) (l3 : 0 ≤ a3) (u3 : a3 ≤ 255) :
    bits .or .i64 (bits .or .i64 (bits .or .i64 (IntKind.i64.wrap (IntKind.i64.wrap a0 * 16777216)) (IntKind.i64.wrap (IntKind.i64.wrap a1 * 65536))) (IntKind.i64.wrap (IntKind.i64.wrap a2 * 256))) (IntKind.i64.wrap a3)
      = ((a0.toNat * 16777216 + a1.toNat * 65536 + a2.toNat * 256 + a3.toNat : Nat) : Int) := by
  obtain ⟨n0, rfl⟩ := Int.eq_ofNat_of_zero_le l0
  obtain ⟨n1, rfl⟩ := Int.eq_ofNat_of_zero_le l1
  obtain ⟨n2, rfl⟩ := Int.eq_ofNat_of_zero_le l2
  obtain ⟨n3, rfl⟩ := Int.eq_ofNat_of_zero_le l3
  have e0 : IntKind.i64.wrap (IntKind.i64.wrap (n0 : Int) * 16777216) = ((n0 * 16777216 : Nat) : Int) := by simp only [IntKind.wrap_i64]; omega
  have e1 : IntKind.i64.wrap (IntKind.i64.wrap (n1 : Int) * 65536) = ((n1 * 65536 : Nat) : Int) := by simp only [IntKind.wrap_i64]; omega
  have e2 : IntKind.i64.wrap (IntKind.i64.wrap (n2 : Int) * 256) = ((n2 * 256 : Nat) : Int) := by simp only [IntKind.wrap_i64]; omega
  have e3 : IntKind.i64.wrap (n3 : Int) = (n3 : Int) := by rw [IntKind.wrap_i64]; omega
  have o1 : n0 * 16777216 ||| n1 * 65536 = (n0 * 256 + n1) * 65536 := by
    have := or_at n0 (n1 * 65536) 24 (by omega)
    simp only [Nat.reducePow] at this
    rw [this]
    omega
  have o2 : (n0 * 256 + n1) * 65536 ||| n2 * 256 = (n0 * 65536 + n1 * 256 + n2) * 256 := by
    have := or_at (n0 * 256 + n1) (n2 * 256) 16 (by omega)
    simp only [Nat.reducePow] at this
    rw [this]
    omega
  have o3 : (n0 * 65536 + n1 * 256 + n2) * 256 ||| n3 = (n0 * 65536 + n1 * 256 + n2) * 256 + n3 := or_at (n0 * 65536 + n1 * 256 + n2) n3 8 (by omega)
  rw [e0, e1, e2, e3, i64_or_nat _ _ (by omega) (by omega), o1, i64_or_nat _ _ (by omega) (by omega), o2, i64_or_nat _ _ (by omega) (by omega), o3]
  simp only [Int.toNat_natCast]
  omega

/-- A part of a slice that lies somewhere. -/
theorem part8s {w : World} {a : Addr} {L : List Int} (hb : Byt w (some a) L) (c l h m : Nat) (vl vh vm : Option Value) (hl : l ≤ h) (hh : h ≤ L.length) (hm : h ≤ m) (hmc : m ≤ c)
    (el : (vl = none ∧ l = 0) ∨ ∃ x : Int, vl = some (.int .i64 x) ∧ x = l) (eh : (vh = none ∧ h = L.length) ∨ ∃ x : Int, vh = some (.int .i64 x) ∧ x = h) (em : (vm = none ∧ m = c) ∨ (∃ x : Int, vm = some (.int .i64 x) ∧ x = m) ∧ vh ≠ none) :
    ∃ a', (∀ W : World, (SLs 22 (.slice (some a) L.length c) vl vh vm).run Tryd.prog W = .ok (.slice (some a') (h - l) (m - l)) W) ∧ Byt w (some a') ((L.drop l).take (h - l)) := by
  obtain ⟨i, hq, hi⟩ := Option.map_eq_some_iff.1 i5
  refine ⟨if m = l then a else a.add l, fun W => ?_, ⟨fun h0 => ?_, fun x hx => hb.bd x (List.mem_of_mem_drop (List.mem_of_mem_take hx))⟩⟩
  · have e1 : ¬ ((h : Int) < 0 ∨ (L.length : Int) < (h : Int)) := by omega
    have b1 : ((0 : Int) ≤ (h : Int) ∧ (h : Int) ≤ (m : Int)) := by omega
    have b2 : ((0 : Int) ≤ (l : Int) ∧ (l : Int) ≤ (h : Int)) := by omega
    have b3 : ((0 : Int) ≤ (m : Int) ∧ (m : Int) ≤ (c : Int)) := by omega
    have e : (some (if m = l then a else a.add l) : Option Addr) = if m = l then some a else some (a.add l) := by split <;> rfl
    rw [e]
    rcases el with ⟨rfl, rfl⟩ | ⟨x, rfl, rfl⟩ <;> rcases eh with ⟨rfl, rfl⟩ | ⟨y, rfl, rfl⟩ <;> rcases em with ⟨rfl, rfl⟩ | ⟨⟨z, rfl, rfl⟩, hne⟩ <;>
      first
        | (exact absurd rfl hne)
        | (simp [SLs, Instr.sliceAt, Instr.slice, Instr.sliceBounds, Instr.sliceBound, asIntOf, run_underlying u22, sizeOf, typeInfo, hq, hi, hl, hm, hmc])
  · have hlen : 0 < ((L.drop l).take (h - l)).length := h0
    simp only [List.length_take, List.length_drop] at hlen
    obtain ⟨g, o, e, hg, hc⟩ := hb.cell (by omega)
    cases e
    have hadd : (⟨g, o, none⟩ : Addr).add l = ⟨g, o + l, none⟩ := by unfold Addr.add; split <;> simp_all
    refine ⟨g, o + l, ?_, hg, fun j x hx => ?_⟩
    · rw [if_neg (by omega)]
      simp [hadd]
    · rw [List.getElem?_take] at hx
      split at hx
      · rw [List.getElem?_drop] at hx
        rw [Nat.add_assoc]
        exact hc _ x hx
      · cases hx

def z4 : List Value := [.int .i64 0, .int .i64 0, .int .i64 0, .slice none 0 0]

/-- A store of a whole record. -/
theorem st115_blk {W : World} {g : Nat} {cs : Array Value} (h : Blk W g 115 cs) (hc : cs.size = 4) (x y z u : Value) (h1 : ∀ v ∈ [x, y, z, u], v.oneCell' = true) :
    (STs 115 (.pointer (some ⟨g, 0, none⟩)) (.agg #[x, y, z, u])).run Tryd.prog W = .ok () (W.setRow g #[x, y, z, u]) := by
  have := STs_blk (P := Tryd.prog) (t := 115) i115 h (off := 0) [x, y, z, u] rfl (by omega) h1
  rw [splice_whole _ _ (by simp [hc])] at this
  exact this
theorem ld115_blk {W : World} {g : Nat} {x y z u : Value} (h : Blk W g 115 #[x, y, z, u]) :
    (LDs 115 (.pointer (some ⟨g, 0, none⟩))).run Tryd.prog W = .ok (.agg #[x, y, z, u]) W := by
  obtain ⟨d, hd, he⟩ := Option.map_eq_some_iff.1 u115
  exact LDs_blk (P := Tryd.prog) hd he i115 h (off := 0) [x, y, z, u] rfl rfl

set_option maxHeartbeats 8000000 in
theorem scread_short (A : Option Addr) (c : Nat) (b : List Int) (w : World) (hb : b.length < 12) :
    Calls Tryd.prog 64 #[.slice A b.length c] w fun e w' => ReadPost w.heap.size (readP b) e w' ∧ Below w.heap.size w w' := by
  have hR : readP b = none := by unfold readP; rw [if_pos hb]
  rw [hR]
  have hlt : (b.length : Int) < 12 := by omega
  have hal : ∀ W : World, (ALs 115).run Tryd.prog W = .ok (.pointer (some ⟨W.heap.size, 0, none⟩)) (W.alloc (.cells #[.int .i64 0, .int .i64 0, .int .i64 0, .slice none 0 0] 115)) := fun W => ALs_new _ z115 W
  have hbd := bd115_0
  have hst := st115_blk (Blk.new w 115 #[.int .i64 0, .int .i64 0, .int .i64 0, .slice none 0 0]) rfl (.int .i64 0) (.int .i64 0) (.int .i64 0) (.slice none 0 0) (by intro v hv; simp at hv; rcases hv with rfl | rfl <;> rfl)
  rw [setRow_alloc_new] at hst
  clear hR
  go_enter Tryd.func64, Tryd.ntmps64
  go_wp2_with fail
  obtain ⟨d, u115', u115d⟩ := u115x
  refine bodyPost_ret (v := .tuple #[.agg #[.int .i64 0, .int .i64 0, .int .i64 0, .slice none 0 0], .bool false]) (results_cell_tmp rfl _ _ w.heap.size _ _ (0, 0) (Blk.new w _ _) u115' u115d rfl rfl) rfl ?_
  exact ⟨⟨_, _, _, _, rfl, rfl⟩, (Below.refl _ w).alloc (Nat.le_refl _) _⟩

set_option maxHeartbeats 8000000 in
theorem scread_any (A : Option Addr) (c : Nat) (hcA : A = none → c = 0) (b : List Int) (w : World) (hy : Byt w A b) (hc : b.length ≤ c) (hl : b.length ≤ 100000000) (hb : 12 ≤ b.length) (hg : Glob w) :
    Calls Tryd.prog 64 #[.slice A b.length c] w fun e w' => ReadPost w.heap.size (readP b) e w' ∧ Below w.heap.size w w' := by
  have hlt : ¬ ((b.length : Int) < 12) := by omega
  have hal : ∀ W : World, (ALs 115).run Tryd.prog W = .ok (.pointer (some ⟨W.heap.size, 0, none⟩)) (W.alloc (.cells #[.int .i64 0, .int .i64 0, .int .i64 0, .slice none 0 0] 115)) := fun W => ALs_new _ z115 W
  have hbd := bd115_0
  obtain ⟨g, o, rfl, hgw, hcell⟩ := hy.cell (by omega)
  have c0 := hcell 0 (b.getD 0 0) (by simp [List.getD, show 0 < b.length by omega])
  have c1 := hcell 1 (b.getD 1 0) (by simp [List.getD, show 1 < b.length by omega])
  have c2 := hcell 2 (b.getD 2 0) (by simp [List.getD, show 2 < b.length by omega])
  have c3 := hcell 3 (b.getD 3 0) (by simp [List.getD, show 3 < b.length by omega])
  have bd : ∀ i, i < b.length → 0 ≤ b.getD i 0 ∧ b.getD i 0 ≤ 255 := fun i hi => by
    have e : b.getD i 0 = b[i] := by simp [List.getD, hi]
    rw [e]
    exact hy.bd _ (List.getElem_mem hi)
  obtain ⟨l0, u0⟩ := bd 0 (by omega)
  obtain ⟨l1, u1⟩ := bd 1 (by omega)
  obtain ⟨l2, u2⟩ := bd 2 (by omega)
  obtain ⟨l3, u3⟩ := bd 3 (by omega)
  have hword : word4P b = (b.getD 0 0).toNat * 16777216 + (b.getD 1 0).toNat * 65536 + (b.getD 2 0).toNat * 256 + (b.getD 3 0).toNat := rfl
  obtain ⟨a0, h0⟩ : ∃ a, b.getD 0 0 = a := ⟨_, rfl⟩
  obtain ⟨a1, h1⟩ : ∃ a, b.getD 1 0 = a := ⟨_, rfl⟩
  obtain ⟨a2, h2⟩ : ∃ a, b.getD 2 0 = a := ⟨_, rfl⟩
  obtain ⟨a3, h3⟩ : ∃ a, b.getD 3 0 = a := ⟨_, rfl⟩
  rw [h0] at c0 l0 u0 hword
  rw [h1] at c1 l1 u1 hword
  rw [h2] at c2 l2 u2 hword
  rw [h3] at c3 l3 u3 hword
  rw [Nat.add_zero] at c0
  have HY := Lib.hid hy
  have HG := Lib.hid hg
  have HW := Lib.hid hword
  obtain ⟨N, hN⟩ : ∃ N, b.length = N := ⟨_, rfl⟩
  obtain ⟨RP, hRP⟩ : ∃ RP, readP b = RP := ⟨_, rfl⟩
  have hcw : ∀ W : World, W = (w.alloc (.cells #[.int .i64 0, .int .i64 0, .int .i64 0, .slice none 0 0] 115)) → True := fun _ _ => trivial
  rw [hN] at hlt hc hl hb ⊢
  rw [hRP]
  have HN := Lib.hid hN
  have HRP := Lib.hid hRP
  have p0 : (0 : Int) < (N : Int) := by omega
  have pn0 : 0 < N := by omega
  have p1 : (1 : Int) < (N : Int) := by omega
  have p2 : (2 : Int) < (N : Int) := by omega
  have p3 : (3 : Int) < (N : Int) := by omega
  clear hy hg hword h0 h1 h2 h3 hcell bd hcw hN hRP
  have k0 : (w.alloc (.cells #[.int .i64 0, .int .i64 0, .int .i64 0, .slice none 0 0] 115)).cell? ⟨g, o, none⟩ = some (.int .u8 a0) := (Below.cell ((Below.refl _ w).alloc (Nat.le_refl _) _) (p := ⟨g, o, none⟩) hgw).trans c0
  have k1 : (w.alloc (.cells #[.int .i64 0, .int .i64 0, .int .i64 0, .slice none 0 0] 115)).cell? ⟨g, o + 1, none⟩ = some (.int .u8 a1) := (Below.cell ((Below.refl _ w).alloc (Nat.le_refl _) _) (p := ⟨g, o + 1, none⟩) hgw).trans c1
  have k2 : (w.alloc (.cells #[.int .i64 0, .int .i64 0, .int .i64 0, .slice none 0 0] 115)).cell? ⟨g, o + 2, none⟩ = some (.int .u8 a2) := (Below.cell ((Below.refl _ w).alloc (Nat.le_refl _) _) (p := ⟨g, o + 2, none⟩) hgw).trans c2
  have k3 : (w.alloc (.cells #[.int .i64 0, .int .i64 0, .int .i64 0, .slice none 0 0] 115)).cell? ⟨g, o + 3, none⟩ = some (.int .u8 a3) := (Below.cell ((Below.refl _ w).alloc (Nat.le_refl _) _) (p := ⟨g, o + 3, none⟩) hgw).trans c3
  go_enter Tryd.func64, Tryd.ntmps64
  go_wp2_with fail
  obtain ⟨W0, hW0⟩ : ∃ W0, (w.alloc (.cells #[.int .i64 0, .int .i64 0, .int .i64 0, .slice none 0 0] 115)) = W0 := ⟨_, rfl⟩
  rw [hW0] at k0 k1 k2 k3 ⊢
  have HW0 := Lib.hid hW0
  clear hW0 c0 c1 c2 c3
  have hgw0 : g < W0.heap.size := by rw [← HW0.out]; simp; omega
  go_region_held3 (fun w' => w'.cell? ⟨g, o, none⟩ = some (.int .u8 a0) ∧ w'.cell? ⟨g, o + 1, none⟩ = some (.int .u8 a1) ∧ w'.cell? ⟨g, o + 2, none⟩ = some (.int .u8 a2) ∧ w'.cell? ⟨g, o + 3, none⟩ = some (.int .u8 a3)) (first | (go_keep; done) | (refine ⟨(World.cell?_setCell_other _ _ _ _ (by simp <;> omega)).trans k0, (World.cell?_setCell_other _ _ _ _ (by simp <;> omega)).trans k1, (World.cell?_setCell_other _ _ _ _ (by simp <;> omega)).trans k2, (World.cell?_setCell_other _ _ _ _ (by simp <;> omega)).trans k3⟩)) (first | fail)
  rename_i hkeep9
  clear hkeep9
  have hV := word_or a0 a1 a2 a3 l0 u0 l1 u1 l2 u2 l3 u3
  rw [← HW.out] at hV
  obtain ⟨L, hL⟩ : ∃ L, word4P b = L := ⟨_, rfl⟩
  rw [hL] at hV
  have hLlt : L < 4294967296 := by
    have := HW.out
    omega
  rw [hV]
  have HL := Lib.hid hL
  clear hV hL HW
  generalize bits BinOp.or IntKind.i64 (bits BinOp.or IntKind.i64 (IntKind.i64.wrap (IntKind.i64.wrap a0 * 16777216)) (IntKind.i64.wrap (IntKind.i64.wrap a1 * 65536))) (IntKind.i64.wrap (IntKind.i64.wrap a2 * 256)) = x5
  generalize bits BinOp.or IntKind.i64 (IntKind.i64.wrap (IntKind.i64.wrap a0 * 16777216)) (IntKind.i64.wrap (IntKind.i64.wrap a1 * 65536)) = x6
  generalize IntKind.i64.wrap (IntKind.i64.wrap a0 * 16777216) = x7
  generalize IntKind.i64.wrap (IntKind.i64.wrap a1 * 65536) = x8
  generalize IntKind.i64.wrap (IntKind.i64.wrap a2 * 256) = x9
  generalize IntKind.i64.wrap a0 = x10
  generalize IntKind.i64.wrap a1 = x11
  generalize IntKind.i64.wrap a2 = x12
  generalize IntKind.i64.wrap a3 = x13
  have hse := sectors_any (12 + L) (by omega)
  rw [Int.natCast_add] at hse
  obtain ⟨S, hS⟩ : ∃ S, secP (12 + L) = S := ⟨_, rfl⟩
  rw [hS] at hse
  have hSL : 12 + L ≤ S * 64 ∧ S * 64 ≤ 12 + L + 63 := by rw [← hS]; unfold secP; omega
  have HS := Lib.hid hS
  clear hS
  clear k0 k1 k2 k3
  have hq0 : Blk W0 w.heap.size 115 #[.int .i64 0, .int .i64 0, .int .i64 0, .slice none 0 0] := by rw [← HW0.out]; exact Blk.new w _ _
  have hB0 : Below w.heap.size w W0 := by rw [← HW0.out]; exact (Below.refl _ w).alloc (Nat.le_refl _) _
  have hs0 : W0.heap.size = w.heap.size + 1 := by rw [← HW0.out]; simp
  have hq1 := (hq0.alloc (.cells #[.int .i64 (L : Int)] 3)).drew
  have hB1 := (hB0.alloc (by omega) (.cells #[.int .i64 (L : Int)] 3)).drew
  have hlb1 := (Blk.new W0 3 #[.int .i64 (L : Int)]).drew
  have hs1 : (W0.alloc (.cells #[.int .i64 (L : Int)] 3)).drew.heap.size = w.heap.size + 2 := by
    have : (W0.alloc (.cells #[.int .i64 (L : Int)] 3)).drew.heap.size = (W0.alloc (.cells #[.int .i64 (L : Int)] 3)).heap.size := rfl
    rw [this]; simp; omega
  obtain ⟨W1, hW1⟩ : ∃ W1, (W0.alloc (.cells #[.int .i64 (L : Int)] 3)).drew = W1 := ⟨_, rfl⟩
  rw [hW1] at hq1 hB1 hlb1 hs1 ⊢
  clear hW1 hq0 hB0
  rw [hs0] at hlb1 ⊢
  have m1 : W1.cell? ⟨w.heap.size + 1, 0, none⟩ = some (.int .i64 (L : Int)) := hlb1.cell 0
  have Q1 := Lib.hid hq1
  have B1 := Lib.hid hB1
  have L1 := Lib.hid hlb1
  clear hq1 hB1 hlb1 hs0 HW0 hgw0
  have hbd2 := bd115_2 (S : Int)
  have hst2 := st115_blk (Blk.new W1 115 #[.int .i64 0, .int .i64 0, .int .i64 0, .slice none 0 0]) rfl (.int .i64 0) (.int .i64 0) (.int .i64 (S : Int)) (.slice none 0 0) (by intro v hv; simp at hv; rcases hv with rfl | rfl | rfl <;> rfl)
  rw [setRow_alloc_new] at hst2
  rw [hs1] at hst2
  go_wp2_with fail
  refine (hse W1).mono ?_
  rintro e w' ⟨rfl, hw⟩
  rw [hw]
  clear hw w' hse
  have hq2 := Q1.out.alloc (.cells #[.int .i64 0, .int .i64 0, .int .i64 (S : Int), .slice none 0 0] 115)
  have hl2 := L1.out.alloc (.cells #[.int .i64 0, .int .i64 0, .int .i64 (S : Int), .slice none 0 0] 115)
  have hB2 := B1.out.alloc (by omega) (.cells #[.int .i64 0, .int .i64 0, .int .i64 (S : Int), .slice none 0 0] 115)
  have hr2 := Blk.new W1 115 #[.int .i64 0, .int .i64 0, .int .i64 (S : Int), .slice none 0 0]
  have hs2 : (W1.alloc (.cells #[.int .i64 0, .int .i64 0, .int .i64 (S : Int), .slice none 0 0] 115)).heap.size = w.heap.size + 3 := by simp; omega
  rw [hs1] at hr2
  obtain ⟨W2, hW2⟩ : ∃ W2, W1.alloc (.cells #[.int .i64 0, .int .i64 0, .int .i64 (S : Int), .slice none 0 0] 115) = W2 := ⟨_, rfl⟩
  rw [hW2] at hst2 hq2 hl2 hB2 hr2 hs2
  have n1 : W2.cell? ⟨w.heap.size + 1, 0, none⟩ = some (.int .i64 (L : Int)) := hl2.cell 0
  have n2 : W2.cell? ⟨w.heap.size + 2, 2, none⟩ = some (.int .i64 (S : Int)) := hr2.cell 2
  have hst0 := st115_blk hq2 rfl (.int .i64 0) (.int .i64 0) (.int .i64 0) (.slice none 0 0) (by intro v hv; simp at hv; rcases hv with rfl | rfl <;> rfl)
  have Q2 := Lib.hid hq2
  have L2 := Lib.hid hl2
  have B2 := Lib.hid hB2
  have R2 := Lib.hid hr2
  clear hW2 hq2 hl2 hB2 hr2 m1
  obtain ⟨d, u115', u115d⟩ := u115x
  have UU := Lib.hid u115'
  have UD := Lib.hid u115d
  clear u115' u115d
  have hno : RP = none → ReadPost w.heap.size RP (.returned (.tuple #[.agg #[.int .i64 0, .int .i64 0, .int .i64 0, .slice none 0 0], .bool false])) (W2.setRow w.heap.size #[.int .i64 0, .int .i64 0, .int .i64 0, .slice none 0 0]) ∧ Below w.heap.size w (W2.setRow w.heap.size #[.int .i64 0, .int .i64 0, .int .i64 0, .slice none 0 0]) := by
    rintro rfl
    exact ⟨⟨_, _, _, _, rfl, rfl⟩, Below.setRow B2.out (Nat.le_refl _) _⟩
  have HNO := Lib.hid hno
  have Q3 := Lib.hid (Q2.out.row_ #[.int .i64 0, .int .i64 0, .int .i64 0, .slice none 0 0])
  clear hno
  by_cases hbig : 1024 < S
  · have hbI : (1024 : Int) < (S : Int) := by omega
    go_wp2_with fail
    refine bodyPost_ret (v := .tuple #[.agg #[.int .i64 0, .int .i64 0, .int .i64 0, .slice none 0 0], .bool false]) (results_cell_tmp rfl _ _ w.heap.size _ _ (0, 0) Q3.out UU.out UD.out rfl rfl) rfl ?_
    refine HNO.out ?_
    rw [← HRP.out]
    unfold readP
    rw [if_neg (by rw [HN.out]; omega), if_pos]
    rw [HL.out, HS.out]
    exact .inl hbig
  · have hbI : ¬ ((1024 : Int) < (S : Int)) := by omega
    have hbD : decide ((1024 : Int) < (S : Int)) = false := decide_eq_false hbI
    by_cases hfew : N < S * 64
    · have hfI : (N : Int) < (S : Int) * 64 := by omega
      go_wp2_with fail
      refine bodyPost_ret (v := .tuple #[.agg #[.int .i64 0, .int .i64 0, .int .i64 0, .slice none 0 0], .bool false]) (results_cell_tmp rfl _ _ w.heap.size _ _ (0, 0) Q3.out UU.out UD.out rfl rfl) rfl ?_
      refine HNO.out ?_
      rw [← HRP.out]
      unfold readP
      rw [if_neg (by rw [HN.out]; omega), if_pos]
      rw [HL.out, HS.out, HN.out]
      exact .inr hfew
    · have hfI : ¬ ((N : Int) < (S : Int) * 64) := by omega
      have hfD : decide ((N : Int) < (S : Int) * 64) = false := by simpa using hfI
      go_wp2_with fail
      have hy2 := HY.out.below B2.out
      obtain ⟨f1, hs1f, hyf⟩ := part8s hy2 c 12 (12 + L) c (some (.int .i64 12)) (some (.int .i64 (12 + (L : Int)))) none (by omega) (by rw [HN.out]; omega) (by omega) (Nat.le_refl _) (.inr ⟨_, rfl, rfl⟩) (.inr ⟨_, rfl, by simp⟩) (.inl ⟨rfl, rfl⟩)
      obtain ⟨f2, hs2f, hyr⟩ := part8s hy2 c (12 + L) (S * 64) c (some (.int .i64 (12 + (L : Int)))) (some (.int .i64 ((S : Int) * 64))) none (by omega) (by rw [HN.out]; omega) (by omega) (Nat.le_refl _) (.inr ⟨_, rfl, by simp⟩) (.inr ⟨_, rfl, by simp⟩) (.inl ⟨rfl, rfl⟩)
      obtain ⟨f3, hs3f, hys⟩ := part8s hy2 c 4 12 c (some (.int .i64 4)) (some (.int .i64 12)) none (by omega) (by rw [HN.out]; omega) (by omega) (Nat.le_refl _) (.inr ⟨_, rfl, rfl⟩) (.inr ⟨_, rfl, rfl⟩) (.inl ⟨rfl, rfl⟩)
      rw [HN.out] at hs1f hs2f hs3f
      rw [show 12 + L - 12 = L by omega] at hs1f hyf
      have g1 : IntKind.i64.wrap (12 + (L : Int)) = 12 + (L : Int) := by rw [IntKind.wrap_i64]; omega
      have g2 : IntKind.i64.wrap ((S : Int) * 64) = (S : Int) * 64 := by rw [IntKind.wrap_i64]; omega
      go_quiet (fail)
      clear g1 g2
      go_wp2_with fail
      obtain ⟨fs, hfs⟩ : ∃ fs, (b.drop 12).take L = fs := ⟨_, rfl⟩
      have hfl : fs.length = L := by rw [← hfs]; simp [HN.out]; omega
      obtain ⟨rs, hrs⟩ : ∃ rs, (b.drop (12 + L)).take (S * 64 - (12 + L)) = rs := ⟨_, rfl⟩
      have hrl : rs.length = S * 64 - (12 + L) := by rw [← hrs]; simp [HN.out]; omega
      obtain ⟨ss, hss⟩ : ∃ ss, (b.drop 4).take 8 = ss := ⟨_, rfl⟩
      have hsl : ss.length = 8 := by rw [← hss]; simp [HN.out]; omega
      rw [hfs] at hyf
      rw [hrs] at hyr
      rw [show 12 - 4 = 8 from rfl, hss] at hys
      have hread : RP = if ss ≠ sumP fs ∨ rs.any (· != 0) = true then none else match eyeP fs L with | none => none | some (t, n, x) => some ⟨t, n, S, x⟩ := by
        rw [← HRP.out]
        unfold readP
        rw [HL.out, HS.out, HN.out, if_neg (by omega), if_neg (by omega), hfs, hrs, hss]
        rfl
      have B3 : Below w.heap.size w (W2.drewN nq).drew := (below_drewN B2.out nq).drew
      have hq3 := (Q2.out.drewN nq).drew
      have hl3 := (L2.out.drewN nq).drew
      have hr3 := (R2.out.drewN nq).drew
      have hs3 : (W2.drewN nq).drew.heap.size = w.heap.size + 3 := hs2
      have hyf3 : Byt (W2.drewN nq).drew (some f1) fs := hyf.below (below_drewN (Below.refl _ _) nq).drew
      have hyr3 : Byt (W2.drewN nq).drew (some f2) rs := hyr.below (below_drewN (Below.refl _ _) nq).drew
      have hys3 : Byt (W2.drewN nq).drew (some f3) ss := hys.below (below_drewN (Below.refl _ _) nq).drew
      refine wp_headsN 3 (by kernel_rfl) (by kernel_rfl) (by kernel_rfl) (by kernel_rfl) ?_
      simp only [List.take_succ_cons, List.take_zero, List.drop_succ_cons, List.drop_zero]
      refine wpHeads_cons (.slice (some ⟨g, o, none⟩) N c) (Or.inl ⟨by rfl, fun W' => by go_simp⟩) ?_
      refine wpHeads_cons (.slice (some f3) (12 - 4) (c - 4)) (Or.inl ⟨by rfl, fun W' => by go_simp⟩) ?_
      refine wpHeads_cons (.slice (some f1) L (c - 12)) (Or.inl ⟨by rfl, fun W' => by go_simp⟩) ?_
      refine wpHeads_nil ?_
      obtain ⟨W3, hW3⟩ : ∃ W3, (W2.drewN nq).drew = W3 := ⟨_, rfl⟩
      rw [hW3] at B3 hq3 hl3 hr3 hs3 hyf3 hyr3 hys3 ⊢
      clear hW3 hst0 hst2 hs2 hy2 hyf hyr hys hbd2 n1 n2
      have hsc := scsum_any (some f1) (c - 12) (by simp) fs W3 hyf3 (by omega) (HG.out.below B3)
      rw [hfl] at hsc
      have F3 := Lib.hid hyf3
      have R3 := Lib.hid hyr3
      have S3 := Lib.hid hys3
      have BB3 := Lib.hid B3
      have QQ3 := Lib.hid hq3
      have LL3 := Lib.hid hl3
      have RR3 := Lib.hid hr3
      have HFS := Lib.hid hfl
      have HRS := Lib.hid hrl
      have HSS := Lib.hid hsl
      have HRD := Lib.hid hread
      clear hyf3 hyr3 hys3 B3 hq3 hl3 hr3 hfs hfl hrs hrl hss hsl hread
      go_wp2_with fail
      refine hsc.mono ?_
      rintro e w4 ⟨A4, c4, rfl, hnew, hB4⟩
      clear hsc
      have eq4 := equal_any (some f3) A4 (c - 4) c4 ss (sumP fs) w4 (S3.out.below hB4) hnew.byt (by rw [HSS.out, sumP_len]) (by rw [HSS.out]; omega)
      rw [HSS.out, sumP_len] at eq4
      have hlb4 := LL3.out.fr (Fr.of_below hB4) (by omega)
      have hq4 := QQ3.out.fr (Fr.of_below hB4) (by omega)
      have hr4 := RR3.out.fr (Fr.of_below hB4) (by omega)
      have hyf4 := F3.out.below hB4
      have hyr4 := R3.out.below hB4
      have B4 := BB3.out.trans (hB4.mono BB3.out.size)
      have F4 := Lib.hid hyf4
      have R4 := Lib.hid hyr4
      have BB4 := Lib.hid B4
      have QQ4 := Lib.hid hq4
      have LL4 := Lib.hid hlb4
      have RR4 := Lib.hid hr4
      have hs4 : w.heap.size + 3 ≤ w4.heap.size := by have := hB4.size; omega
      clear hyf4 hyr4 B4 hq4 hlb4 hr4 hnew hB4 F3 R3 S3 QQ3 LL3 RR3
      go_wp2_with fail
      by_cases heq : ss = sumP fs
      · rw [decide_eq_true heq] at eq4
        with_reducible refine eq4.mono ?_
        rintro e w5' ⟨rfl, m4, rfl⟩
        have iz := iszero_any (some f2) (c - (12 + L)) rs (w4.drewN m4) (R4.out.below (below_drewN (Below.refl _ _) m4)) (by rw [HRS.out]; omega)
        rw [HRS.out] at iz
        have HEQ := Lib.hid heq
        clear eq4 heq
        obtain ⟨W5, hW5⟩ : ∃ W5, w4.drewN m4 = W5 := ⟨_, rfl⟩
        have B5 : Below w.heap.size w (w4.drewN m4) := below_drewN BB4.out m4
        have hq5 := QQ4.out.drewN m4
        have hl5 := LL4.out.drewN m4
        have hr5 := RR4.out.drewN m4
        have hyf5 := F4.out.below (below_drewN (Below.refl _ _) m4)
        have hs5 : w.heap.size + 3 ≤ (w4.drewN m4).heap.size := hs4
        rw [hW5] at iz B5 hq5 hl5 hr5 hyf5 hs5 ⊢
        clear hW5
        have BB5 := Lib.hid B5
        have QQ5 := Lib.hid hq5
        have LL5 := Lib.hid hl5
        have RR5 := Lib.hid hr5
        have F5 := Lib.hid hyf5
        have hst5 := st115_blk hq5 rfl (.int .i64 0) (.int .i64 0) (.int .i64 0) (.slice none 0 0) (by intro v hv; simp at hv; rcases hv with rfl | rfl <;> rfl)
        clear B5 hq5 hl5 hr5 hyf5
        go_wp2_with fail
        refine iz.mono ?_
        rintro e w' ⟨rfl, hw⟩
        rw [hw]
        clear iz hw w'
        cases hz : rs.any (· != 0) with
        | true =>
          have HZ := Lib.hid hz
          clear hz
          simp only [Bool.not_true]
          go_wp2_with fail
          rw [noPan_normal]
          go_wp2_with fail
          refine bodyPost_ret (v := .tuple #[.agg #[.int .i64 0, .int .i64 0, .int .i64 0, .slice none 0 0], .bool false]) (results_cell_tmp rfl _ _ w.heap.size _ _ (0, 0) (QQ5.out.row_ _) UU.out UD.out rfl rfl) rfl ?_
          refine ⟨?_, Below.setRow BB5.out (Nat.le_refl _) _⟩
          rw [show RP = none from by rw [HRD.out, if_pos (.inr HZ.out)]]
          exact ⟨_, _, _, _, rfl, rfl⟩
        | false =>
          have HZ := Lib.hid hz
          clear hz
          simp only [Bool.not_false]
          have hfr := fread_any (w.heap.size + 2) (w.heap.size + 1) (some f1) (c - 12) (by simp) fs 0 0 (S : Int) (.slice none 0 0) L (by omega) (by rw [HFS.out]; omega) W5 F5.out RR5.out LL5.out (by intro y h; cases h) rfl
          rw [HFS.out] at hfr
          have HFR := Lib.hid hfr
          have hmf : ∀ (fn : Fn) (first cap : Array Value) (w : World), (Instr.makeFunc fn first cap).run Tryd.prog w = .ok (.func fn first cap) w := fun _ _ _ _ => rfl
          clear hfr
          go_wp2_with fail
          rw [noPan_normal]
          go_wp2_with fail
          refine HFR.out.mono ?_
          rintro e w6 ⟨f6, hp6⟩
          have hq6 := QQ5.out.fr f6 (by omega)
          have B6 := BB5.out.trans (f6.below (by omega) (fun k hk e => by omega))
          have hRP : RP = match eyeP fs L with | none => none | some (t, n, x) => some ⟨t, n, S, x⟩ := by
            rw [HRD.out, if_neg]
            rintro (h | h)
            · exact h HEQ.out
            · rw [HZ.out] at h
              cases h
          cases hE : eyeP fs L with
          | none =>
            rw [hE] at hp6 hRP
            simp only at hRP
            obtain ⟨⟨x, hx, rfl⟩, a, b9, v, hv1, hb6⟩ := hp6
            have hx0 : (x == 0) = false := by simpa using hx
            have hld := ld115_blk hb6
            have hst6 := st115_blk hq6 rfl (.int .i64 a) (.int .i64 b9) (.int .i64 (S : Int)) v (by intro u hu; simp at hu; rcases hu with rfl | rfl | rfl | rfl <;> first | rfl | exact hv1)
            have Q6 := Lib.hid hq6
            have BB6 := Lib.hid B6
            have HP := Lib.hid hRP
            clear hq6 B6 hRP hE hb6 f6 hx
            go_wp2_with fail
            refine bodyPost_ret (v := .tuple #[.agg #[.int .i64 a, .int .i64 b9, .int .i64 (S : Int), v], .bool false]) (results_cell_tmp rfl _ _ w.heap.size _ _ (0, 0) (Q6.out.row_ _) UU.out UD.out rfl rfl) rfl ?_
            refine ⟨?_, Below.setRow BB6.out (Nat.le_refl _) _⟩
            rw [show RP = none from HP.out]
            exact ⟨_, _, _, _, hv1, rfl⟩
          | some tn =>
            obtain ⟨tt, nn, x⟩ := tn
            rw [hE] at hp6 hRP
            simp only at hRP
            obtain ⟨rfl, v, ho6, hb6⟩ := hp6
            obtain ⟨A6, c6, rfl⟩ := ho6.form
            have hld := ld115_blk hb6
            have hst6 := st115_blk hq6 rfl (.int .i64 (tt : Int)) (.int .i64 (nn : Int)) (.int .i64 (S : Int)) (.slice A6 x.length c6) (by intro u hu; simp at hu; rcases hu with rfl | rfl | rfl | rfl <;> rfl)
            have hne6 := own_ne ho6 hq6 (by decide)
            have Q6 := Lib.hid hq6
            have BB6 := Lib.hid B6
            have HP := Lib.hid hRP
            have HO6 := Lib.hid ho6
            have HN6 := Lib.hid hne6
            clear hq6 B6 hRP hE hb6 f6 ho6 hne6
            go_wp2_with fail
            refine bodyPost_ret (v := .tuple #[.agg #[.int .i64 (tt : Int), .int .i64 (nn : Int), .int .i64 (S : Int), .slice A6 x.length c6], .bool true]) (results_cell_tmp rfl _ _ w.heap.size _ _ (0, 0) (Q6.out.row_ _) UU.out UD.out rfl rfl) rfl ?_
            refine ⟨?_, Below.setRow BB6.out (Nat.le_refl _) _⟩
            rw [show RP = some ⟨tt, nn, S, x⟩ from HP.out]
            exact ⟨_, rfl, (HO6.out.base (by omega)).fr ((Fr.refl (fun k => k = w.heap.size) w6).setRow (fun _ => rfl) _) (fun k hk e => HN6.out (e ▸ hk))⟩
      · rw [decide_eq_false heq] at eq4
        refine eq4.mono ?_
        rintro e w5' ⟨rfl, m4, rfl⟩
        have HEQ := Lib.hid heq
        clear eq4 heq
        have B5 : Below w.heap.size w (w4.drewN m4) := below_drewN BB4.out m4
        have hq5 := QQ4.out.drewN m4
        have hst5 := st115_blk hq5 rfl (.int .i64 0) (.int .i64 0) (.int .i64 0) (.slice none 0 0) (by intro v hv; simp at hv; rcases hv with rfl | rfl <;> rfl)
        have BB5 := Lib.hid B5
        have QQ5 := Lib.hid hq5
        clear B5 hq5
        go_wp2_with fail
        rw [noPan_normal]
        go_wp2_with fail
        refine bodyPost_ret (v := .tuple #[.agg #[.int .i64 0, .int .i64 0, .int .i64 0, .slice none 0 0], .bool false]) (results_cell_tmp rfl _ _ w.heap.size _ _ (0, 0) (QQ5.out.row_ _) UU.out UD.out rfl rfl) rfl ?_
        refine ⟨?_, Below.setRow BB5.out (Nat.le_refl _) _⟩
        rw [show RP = none from by rw [HRD.out, if_pos (.inl HEQ.out)]]
        exact ⟨_, _, _, _, rfl, rfl⟩

end Go.Proofs.YtohadeijmmmcdaaDoor
