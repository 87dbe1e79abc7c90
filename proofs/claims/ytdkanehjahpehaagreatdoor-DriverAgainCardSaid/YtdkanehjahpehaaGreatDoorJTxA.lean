/-
  Numbers, rising, each once: what a sort and a compaction leave is what the document says. Plain.
  A transaction in the world; tx.within, tx.isLong.
  tx.isTwice: a set of outputs as a map.
  tx.isTwice (the walk).
  tx.amounts.
  tx.Check.
-/
import Derived.Test.YtdkanehjahpehaaGreatDoorJTxP
import Derived.Lib.SlicesCompact
import Derived.Test.YtdkanehjahpehaaGreatDoorShelf
import Derived.Maps.OwnSet
import Derived.Maps.Views
import Derived.WideKeyEntry
import Derived.DeepKeys4
import Derived.Test.YtdkanehjahpehaaGreatDoorJTxtO
import Derived.Deep.CutRange
import Derived.Deep.CutBlock
import Derived.Test.YtdkanehjahpehaaGreatDoorJOwnR

section
namespace Go.Proofs.YtdkanehjahpehaaGreatDoor
open Go.RowKit Go.Shelf

theorem eq_of_rising : ∀ (a b : List Int), a.Pairwise (· < ·) → b.Pairwise (· < ·) → (∀ x, x ∈ a ↔ x ∈ b) → a = b
  | [], [], _, _, _ => rfl
  | [], y :: b, _, _, h => absurd ((h y).2 (by simp)) (by simp)
  | x :: a, [], _, _, h => absurd ((h x).1 (by simp)) (by simp)
  | x :: a, y :: b, ha, hb, h => by
    obtain ⟨ha1, ha2⟩ := List.pairwise_cons.1 ha
    obtain ⟨hb1, hb2⟩ := List.pairwise_cons.1 hb
    have hxy : x = y := by
      have h1 := (h x).1 (by simp)
      have h2 := (h y).2 (by simp)
      rcases List.mem_cons.1 h1 with e | e
      · exact e
      · rcases List.mem_cons.1 h2 with e' | e'
        · exact e'.symm
        · have := hb1 x e
          have := ha1 y e'
          omega
    subst hxy
    rw [eq_of_rising a b ha2 hb2 (fun z => by
      have hz := h z
      simp only [List.mem_cons] at hz
      constructor
      · intro m
        rcases hz.1 (.inr m) with e | e
        · subst e; have := ha1 z m; omega
        · exact e
      · intro m
        rcases hz.2 (.inr m) with e | e
        · subst e; have := hb1 z m; omega
        · exact e)]

theorem compactUpTo_mem (d : Array Int) (x : Int) : ∀ m, x ∈ Lib.compactUpTo d m ↔ ∃ j, j < m ∧ d[j]! = x
  | 0 => by simp [Lib.compactUpTo]
  | m + 1 => by
    rw [Lib.compactUpTo_succ, List.mem_append, compactUpTo_mem d x m]
    constructor
    · rintro (⟨j, hj, e⟩ | h)
      · exact ⟨j, by omega, e⟩
      · split at h
        · exact ⟨m, by omega, (by simpa using h : x = d[m]!).symm⟩
        · simp at h
    · rintro ⟨j, hj, e⟩
      by_cases hm : j < m
      · exact .inl ⟨j, hm, e⟩
      · obtain rfl : j = m := by omega
        by_cases hk : Lib.keeps d j = true
        · exact .inr (by simp [hk, e])
        · have hk' : ¬ (j = 0 ∨ d[j]! ≠ d[j - 1]!) := by simpa [Lib.keeps] using hk
          have h0 : j ≠ 0 := fun e => hk' (.inl e)
          have h1 : d[j]! = d[j - 1]! := by
            by_cases e : d[j]! = d[j - 1]!
            · exact e
            · exact absurd (.inr e) hk'
          exact .inl ⟨j - 1, by omega, by rw [← h1, e]⟩

theorem compactUpTo_rise (d : Array Int) (h : ∀ i j, i ≤ j → j < d.size → d[i]! ≤ d[j]!) : ∀ m, m ≤ d.size → (Lib.compactUpTo d m).Pairwise (· < ·)
  | 0, _ => by simp [Lib.compactUpTo]
  | m + 1, hm => by
    rw [Lib.compactUpTo_succ, List.pairwise_append]
    refine ⟨compactUpTo_rise d h m (by omega), by split <;> simp, fun a ha b hb => ?_⟩
    split at hb
    · rename_i hk
      obtain rfl : b = d[m]! := by simpa using hb
      obtain ⟨j, hj, rfl⟩ := (compactUpTo_mem d a m).1 ha
      have hk' : m = 0 ∨ d[m]! ≠ d[m - 1]! := by simpa [Lib.keeps] using hk
      have h1 := h j (m - 1) (by omega) (by omega)
      have h2 := h (m - 1) m (by omega) (by omega)
      have h3 : d[m]! ≠ d[m - 1]! := hk'.resolve_left (by omega)
      omega
    · simp at hb

theorem compact_sorted {l : List Int} (h : l.Pairwise (· ≤ ·)) : (Lib.compact l).Pairwise (· < ·) := by
  refine compactUpTo_rise l.toArray (fun i j hij hj => ?_) l.length (by simp)
  have hj' : j < l.length := by simpa using hj
  by_cases e : i = j
  · subst e; exact Int.le_refl _
  · have := List.pairwise_iff_getElem.1 h i j (by omega) hj' (by omega)
    simpa [getElem!_pos, hj', show i < l.length by omega] using this
theorem compact_mem {l : List Int} (x : Int) : x ∈ Lib.compact l ↔ x ∈ l := by
  unfold Lib.compact
  rw [compactUpTo_mem, List.mem_iff_getElem]
  constructor
  · rintro ⟨j, hj, e⟩
    exact ⟨j, hj, by simpa [getElem!_pos, hj] using e⟩
  · rintro ⟨j, hj, e⟩
    exact ⟨j, hj, by simpa [getElem!_pos, hj] using e⟩

theorem eachP_rise (l : List Int) : (eachP l).Pairwise (· < ·) := by
  unfold eachP
  refine List.Pairwise.filter _ ?_
  rw [List.pairwise_map]
  exact List.pairwise_lt_range.imp (fun {a b} h => by omega)
theorem eachP_mem (l : List Int) (x : Int) : x ∈ eachP l ↔ x ∈ l ∧ 0 ≤ x ∧ x < 64 := by
  unfold eachP
  simp only [List.mem_filter, List.mem_map, List.mem_range, List.contains_iff_mem]
  constructor
  · rintro ⟨⟨k, hk, rfl⟩, h⟩
    exact ⟨h, by omega, by omega⟩
  · rintro ⟨h, h0, h1⟩
    exact ⟨⟨x.toNat, by omega, by omega⟩, h⟩

/-- What is sorted and compacted is each number once, rising. -/
theorem each_eq {l : List Int} (h : ∀ x ∈ l, 0 ≤ x ∧ x < 64) : Lib.compact (l.mergeSort fun x y => decide (x ≤ y)) = eachP l := by
  have hs : (l.mergeSort fun x y => decide (x ≤ y)).Pairwise (· ≤ ·) :=
    (List.pairwise_mergeSort (le := fun (x y : Int) => decide (x ≤ y)) (fun a b c h1 h2 => by simp at *; omega) (fun a b => by simp; omega) l).imp (fun {a b} h => by simpa using h)
  refine eq_of_rising _ _ (compact_sorted hs) (eachP_rise l) (fun x => ?_)
  rw [compact_mem, eachP_mem, List.mem_mergeSort]
  constructor
  · intro hx
    exact ⟨hx, h x hx⟩
  · intro hx
    exact hx.1
theorem eachP_len (l : List Int) : (eachP l).length ≤ 64 := by
  unfold eachP
  exact Nat.le_trans (List.length_filter_le _ _) (by simp)
theorem eachP_nil : eachP [] = [] := by
  unfold eachP
  simp

theorem placesP_mem (l : List Int) (v x : Int) : x ∈ placesP l v ↔ ∃ i : Nat, x = (i : Int) ∧ l[i]? = some v := by
  unfold placesP
  simp only [List.mem_map, List.mem_filter, List.mem_range, beq_iff_eq]
  constructor
  · rintro ⟨i, ⟨hi, h⟩, rfl⟩
    exact ⟨i, rfl, by rw [← h]; simp [List.getD, hi]⟩
  · rintro ⟨i, rfl, h⟩
    obtain ⟨hi, e⟩ := List.getElem?_eq_some_iff.1 h
    exact ⟨i, ⟨hi, by simp [List.getD, hi, e]⟩, rfl⟩
theorem placesP_nil (v : Int) : placesP [] v = [] := rfl
theorem placesP_snoc (l : List Int) (x v : Int) : placesP (l ++ [x]) v = placesP l v ++ (if x = v then [(l.length : Int)] else []) := by
  unfold placesP
  rw [List.length_append, List.length_singleton, List.range_succ, List.filter_append, List.map_append]
  congr 1
  · congr 1
    refine List.filter_congr (fun i hi => ?_)
    have := List.mem_range.1 hi
    simp [List.getD, List.getElem?_append_left this]
  · by_cases h : x = v
    · subst h; simp
    · simp [h]
theorem placesP_len (l : List Int) (v : Int) : (placesP l v).length ≤ l.length := by
  unfold placesP
  rw [List.length_map]
  exact Nat.le_trans (List.length_filter_le _ _) (by simp)
theorem placesP_pos (l : List Int) (v : Int) : 0 < (placesP l v).length ↔ v ∈ l := by
  rw [List.length_pos_iff_exists_mem]
  constructor
  · rintro ⟨x, hx⟩
    obtain ⟨i, _, h⟩ := (placesP_mem l v x).1 hx
    exact List.mem_of_getElem? h
  · intro h
    obtain ⟨i, h⟩ := List.getElem?_of_mem h
    exact ⟨(i : Int), (placesP_mem l v _).2 ⟨i, rfl, h⟩⟩
end Go.Proofs.YtdkanehjahpehaaGreatDoor
end

section
namespace Go.Proofs.YtdkanehjahpehaaGreatDoor
open Go.RowKit Go.Shelf
set_option maxRecDepth 100000

/-- An input's cells. -/
def inV (i : InD) (A : Option Addr) (c : Nat) : List Value := ptL i.tx i.ix ++ [.int .u64 i.am, .slice A i.sec.length c]
theorem inV_len {i : InD} (h : i.Bd) (A : Option Addr) (c : Nat) : (inV i A c).length = 35 := by
  simp [inV, ptL_len h.len]
theorem ptL_one (tx : List Int) (ix : Int) : ∀ v ∈ ptL tx ix, v.oneCell' = true := by
  intro v hv
  rcases List.mem_append.1 hv with h | h
  · exact bys_one _ v h
  · simp only [List.mem_singleton] at h; subst h; rfl
theorem inV_one (i : InD) (A : Option Addr) (c : Nat) : ∀ v ∈ inV i A c, v.oneCell' = true := by
  intro v hv
  rcases List.mem_append.1 hv with h | h
  · exact ptL_one _ _ v h
  · simp only [List.mem_cons, List.not_mem_nil, or_false] at h
    rcases h with rfl | rfl <;> rfl
/-- An output's cells. -/
def outV (o : OutD) : List Value := bys o.ow ++ [.int .u64 o.am]
theorem outV_len {o : OutD} (h : o.Bd) : (outV o).length = 33 := by simp [outV, bys_length, h.len]
theorem outV_one (o : OutD) : ∀ v ∈ outV o, v.oneCell' = true := by
  intro v hv
  rcases List.mem_append.1 hv with h | h
  · exact bys_one _ v h
  · simp only [List.mem_singleton] at h; subst h; rfl

/-- At g, o lies an input. -/
structure InAt (w : World) (g o : Nat) (A : Option Addr) (c : Nat) (i : InD) : Prop where
  cell : ∀ j x, (inV i A c)[j]? = some x → w.cell? ⟨g, o + j, none⟩ = some x
  sec : Byt w A i.sec
  cap : i.sec.length ≤ c
  nul : A = none → c = 0
  max : i.sec.length ≤ maxLen
/-- From A on lie these inputs. -/
def InsAt (w : World) (A : Option Addr) (l : List InD) : Prop := ∀ j (h : j < l.length), ∃ g off B c, A = some ⟨g, off, none⟩ ∧ g < w.heap.size ∧ InAt w g (off + j * 35) B c l[j]
/-- From A on lie these outputs. -/
def OutsAt (w : World) (A : Option Addr) (l : List OutD) : Prop := ∀ j (h : j < l.length), ∃ g off, A = some ⟨g, off, none⟩ ∧ g < w.heap.size ∧ ∀ k x, (outV l[j])[k]? = some x → w.cell? ⟨g, off + j * 33 + k, none⟩ = some x
theorem InAt.below {w w' : World} {g o : Nat} {A : Option Addr} {c : Nat} {i : InD} (h : InAt w g o A c i) (hg : g < w.heap.size) (hb : Below w.heap.size w w') : InAt w' g o A c i :=
  ⟨fun j x hx => (hb.cell (p := ⟨g, o + j, none⟩) hg).trans (h.cell j x hx), h.sec.below hb, h.cap, h.nul, h.max⟩
theorem InsAt.below {w w' : World} {A : Option Addr} {l : List InD} (h : InsAt w A l) (hb : Below w.heap.size w w') : InsAt w' A l := fun j hj => by
  obtain ⟨g, off, B, c, e, hg, hi⟩ := h j hj
  exact ⟨g, off, B, c, e, Nat.lt_of_lt_of_le hg hb.size, hi.below hg hb⟩
theorem OutsAt.below {w w' : World} {A : Option Addr} {l : List OutD} (h : OutsAt w A l) (hb : Below w.heap.size w w') : OutsAt w' A l := fun j hj => by
  obtain ⟨g, off, e, hg, hi⟩ := h j hj
  exact ⟨g, off, e, Nat.lt_of_lt_of_le hg hb.size, fun k x hx => (hb.cell (p := ⟨g, off + j * 33 + k, none⟩) hg).trans (hi k x hx)⟩

/-- A transaction's value. -/
def txV (A1 : Option Addr) (c1 : Nat) (A2 : Option Addr) (c2 : Nat) (t : TxD) : Array Value := #[.slice A1 t.ins.length c1, .slice A2 t.outs.length c2, .int .u64 t.fee, .int .i64 t.exp]
/-- .. in the world. -/
structure TxAt (w : World) (A1 A2 : Option Addr) (t : TxD) : Prop where
  ins : InsAt w A1 t.ins
  outs : OutsAt w A2 t.outs
  bd : t.Bd
theorem TxAt.below {w w' : World} {A1 A2 : Option Addr} {t : TxD} (h : TxAt w A1 A2 t) (hb : Below w.heap.size w w') : TxAt w' A1 A2 t := ⟨h.ins.below hb, h.outs.below hb, h.bd⟩

/-! ### Loads and stores of inputs, outputs, points, digests: kept shut -/
theorem ldIn_of (v : Value) : Instr.loadAt 77 v = LDs 77 v := rfl
theorem stIn_of (v x : Value) : Instr.storeAt 77 v x = STs 77 v x := rfl
theorem alIn_of : Instr.alloc 77 true (.tuple #[]) = ALs 77 := rfl
theorem ldOut_of (v : Value) : Instr.loadAt 80 v = LDs 80 v := rfl
theorem stOut_of (v x : Value) : Instr.storeAt 80 v x = STs 80 v x := rfl
theorem alOut_of : Instr.alloc 80 true (.tuple #[]) = ALs 80 := rfl
theorem ldPt_of (v : Value) : Instr.loadAt 75 v = LDs 75 v := rfl
theorem uIn : (Tryz.prog.underlying 77).map isAggD = some true := by kernel_rfl
theorem iIn : (Tryz.prog.info? 77).map (·.size) = some 35 := by kernel_rfl
theorem zIn : (((Tryz.prog.info? 77).bind (·.zero)).map (·.cells.size)) = some 35 := by kernel_rfl
theorem uOut : (Tryz.prog.underlying 80).map isAggD = some true := by kernel_rfl
theorem iOut : (Tryz.prog.info? 80).map (·.size) = some 33 := by kernel_rfl
theorem zOut : (((Tryz.prog.info? 80).bind (·.zero)).map (·.cells.size)) = some 33 := by kernel_rfl
theorem uPt : (Tryz.prog.underlying 75).map isAggD = some true := by kernel_rfl
theorem iPt : (Tryz.prog.info? 75).map (·.size) = some 33 := by kernel_rfl

/-- A load of an aggregate of n cells. -/
theorem LDs_agg {P : Program} {t : TypeId} {n : Nat} (hu : (P.underlying t).map isAggD = some true) (hi : (P.info? t).map (·.size) = some n) (w : World) (g off : Nat) (xs : List Value) (hl : xs.length = n)
    (hc : ∀ j v, xs[j]? = some v → w.cell? ⟨g, off + j, none⟩ = some v) : (LDs t (.pointer (some ⟨g, off, none⟩))).run P w = .ok (.agg xs.toArray) w := by
  obtain ⟨d, h1, h2⟩ := Option.map_eq_some_iff.1 hu
  exact LDs_part w t d n h1 h2 hi g off xs hl hc
theorem LDs_aggB {P : Program} {t : TypeId} {n : Nat} (hu : (P.underlying t).map isAggD = some true) (hi : (P.info? t).map (·.size) = some n) {w : World} {g off : Nat} {e : TypeId} {cs : Array Value} (hb : Blk w g e cs) (xs : List Value) (hl : xs.length = n)
    (hx : (cs.toList.drop off).take n = xs) : (LDs t (.pointer (some ⟨g, off, none⟩))).run P w = .ok (.agg xs.toArray) w := by
  obtain ⟨d, h1, h2⟩ := Option.map_eq_some_iff.1 hu
  exact LDs_blk h1 h2 hi hb xs hl hx

/-- A new variable of an aggregate type, and a store of it: it holds what was stored. -/
theorem alst {P : Program} {t : TypeId} {n : Nat} (hi : (P.info? t).map (·.size) = some n) (hz : (((P.info? t).bind (·.zero)).map (·.cells.size)) = some n) :
    ∃ Z : Array Value, (∀ W : World, (ALs t).run P W = .ok (.pointer (some ⟨W.heap.size, 0, none⟩)) (W.alloc (.cells Z t))) ∧
      ∀ (W : World) (xs : List Value), xs.length = n → (∀ v ∈ xs, v.oneCell' = true) → (STs t (.pointer (some ⟨W.heap.size, 0, none⟩)) (.agg xs.toArray)).run P (W.alloc (.cells Z t)) = .ok () (W.alloc (.cells xs.toArray t)) := by
  obtain ⟨z, h1, h2⟩ := Option.map_eq_some_iff.1 hz
  exact ⟨z.cells, fun W => ALs_new z h1 W, fun W xs hl h1 => STs_new hi W _ h2 xs hl h1⟩

/-! ### tx.within, tx.isLong -/
theorem within_any (n lo hi : Int) (w : World) : Calls Tryz.prog 99 #[.int .i64 n, .int .i64 lo, .int .i64 hi] w fun e w' => e = .returned (.bool (decide (lo ≤ n ∧ n ≤ hi))) ∧ w' = w := by
  by_cases h1 : lo ≤ n
  · by_cases h2 : n ≤ hi
    · have hd : decide (lo ≤ n ∧ n ≤ hi) = true := by simp [h1, h2]
      rw [hd]
      clear hd
      go_enter Tryz.func99, Tryz.ntmps99
      go_wp2_with fail
      go_ret
      exact ⟨rfl, rfl⟩
    · have hd : decide (lo ≤ n ∧ n ≤ hi) = false := by simp [h2]
      rw [hd]
      clear hd
      go_enter Tryz.func99, Tryz.ntmps99
      go_wp2_with fail
      go_ret
      exact ⟨rfl, rfl⟩
  · have hd : decide (lo ≤ n ∧ n ≤ hi) = false := by simp [h1]
    rw [hd]
    clear hd
    go_enter Tryz.func99, Tryz.ntmps99
    go_wp2_with fail
    go_ret
    exact ⟨rfl, rfl⟩

theorem long1_any (i : InD) (hb : i.Bd) (A : Option Addr) (c : Nat) (w : World) :
    Calls Tryz.prog 101 #[.agg (inV i A c).toArray] w fun e w' => e = .returned (.bool (inLongP i)) ∧ Below w.heap.size w w' := by
  have b0 := Blk.new w 77 (inV i A c).toArray
  have B0 : Below w.heap.size w (w.alloc (.cells (inV i A c).toArray 77)) := (Below.refl _ w).alloc (Nat.le_refl _) _
  obtain ⟨W, hW⟩ : ∃ W, w.alloc (.cells (inV i A c).toArray 77) = W := ⟨_, rfl⟩
  obtain ⟨g, hg⟩ : ∃ g, w.heap.size = g := ⟨_, rfl⟩
  rw [hW, hg] at b0
  rw [hW] at B0
  have q32 : W.cell? ⟨g, 32, none⟩ = some (.int .i64 i.ix) := by
    rw [b0.cell 32]; simp [inV, ptL, bys_length, hb.len]
  have q34 : W.cell? ⟨g, 34, none⟩ = some (.slice A i.sec.length c) := by
    rw [b0.cell 34]; simp [inV, ptL, bys_length, hb.len]
  have wi := within_any i.ix 0 15 W
  have HW := Lib.hid hW
  have HG := Lib.hid hg
  have HB := Lib.hid B0
  unfold inLongP
  clear hW hg B0 b0 hb
  obtain ⟨n, hn⟩ : ∃ n, i.sec.length = n := ⟨_, rfl⟩
  rw [hn] at q34 ⊢
  clear hn
  by_cases h : 64 < n
  · have hI : (64 : Int) < (n : Int) := by omega
    have hd : decide (64 < n) = true := by simp [h]
    rw [hd, Bool.true_or]
    clear hd
    go_enter Tryz.func101, Tryz.ntmps101
    go_upto_region 1 with fail
    rw [HW.out, HG.out]
    go_wp2_with fail
    go_ret
    exact ⟨rfl, HB.out⟩
  · have hI : ¬ (64 : Int) < (n : Int) := by omega
    have hd : decide (64 < n) = false := by simp [h]
    rw [hd, Bool.false_or]
    obtain ⟨R, hR⟩ : ∃ R, decide ((0 : Int) ≤ i.ix ∧ i.ix ≤ 15) = R := ⟨_, rfl⟩
    rw [hR] at wi ⊢
    clear hd hR
    go_enter Tryz.func101, Tryz.ntmps101
    go_upto_region 1 with fail
    rw [HW.out, HG.out]
    go_wp2_with fail
    with_reducible refine wi.mono ?_
    rintro e w' ⟨rfl, rfl⟩
    go_wp2_with fail
    go_ret
    exact ⟨rfl, HB.out⟩

/-- An input with its secret's slice. -/
structure InW where
  i : InD
  bd : i.Bd
  A : Option Addr
  c : Nat
instance : Inhabited InW := ⟨⟨⟨List.replicate 32 0, 0, 0, []⟩, ⟨by simp, by intro x hx; have := List.eq_of_mem_replicate hx; omega, by simp, by simp, by simp⟩, none, 0⟩⟩
theorem InsAt.rows {w : World} {A : Option Addr} {l : List InD} (h : InsAt w A l) (hb : ∀ i ∈ l, i.Bd) (h0 : 0 < l.length) :
    ∃ g off, A = some ⟨g, off, none⟩ ∧ g < w.heap.size ∧ ∃ zs : List InW, zs.map (·.i) = l ∧ ∀ j, j < zs.length → ∀ k v, (inV zs[j]!.i zs[j]!.A zs[j]!.c)[k]? = some v → w.cell? ⟨g, off + j * 35 + k, none⟩ = some v := by
  obtain ⟨g, off, _, _, rfl, hg, _⟩ := h 0 h0
  refine ⟨g, off, rfl, hg, ?_⟩
  have each : ∀ j : Nat, ∃ z : InW, ∀ hj : j < l.length, z.i = l[j] ∧ ∀ k v, (inV z.i z.A z.c)[k]? = some v → w.cell? ⟨g, off + j * 35 + k, none⟩ = some v := by
    intro j
    by_cases hj : j < l.length
    · obtain ⟨g', off', B, c, e, _, hi⟩ := h j hj
      cases e
      exact ⟨⟨l[j], hb _ (List.getElem_mem hj), B, c⟩, fun _ => ⟨rfl, fun k v hv => hi.cell k v hv⟩⟩
    · exact ⟨default, fun h' => absurd h' hj⟩
  obtain ⟨f, hf⟩ := Classical.skolem.1 each
  refine ⟨(List.range l.length).map f, ?_, fun j hj k v hv => ?_⟩
  · apply List.ext_getElem
    · simp
    · intro j h1 h2
      simpa using (hf j h2).1
  · have hj' : j < l.length := by simpa using hj
    have e : ((List.range l.length).map f)[j]! = f j := by simp [getElem!_pos, hj']
    rw [e] at hv
    exact (hf j hj').2 k v hv

theorem aIn (w : World) : (isAgg 77).run Tryz.prog w = .ok true w := by kernel_rfl
theorem sIn (w : World) : (Go.sizeOf 77).run Tryz.prog w = .ok 35 w := by kernel_rfl
theorem cf_any (A : Option Addr) (c : Nat) (l : List InD) (hb : ∀ i ∈ l, i.Bd) (w : World) (h : InsAt w A l) (h0 : 0 < l.length) (hl : l.length ≤ 1000000000) :
    Calls Tryz.prog 100 #[.slice A l.length c, .func (.func 101) #[] #[]] w fun e w' => e = .returned (.bool (l.any inLongP)) ∧ Below w.heap.size w w' := by
  obtain ⟨g, off, rfl, hg, zs, rfl, hc⟩ := h.rows hb h0
  have hz : (zs.map (·.i)).length = zs.length := by simp
  rw [hz] at hl ⊢
  have := AnyQ.slices_ContainsFunc Tryz.laysCF 35 aIn sIn (fun z : InW => inV z.i z.A z.c) (fun z => inV_len z.bd z.A z.c) (fun z => inLongP z.i) 101 #[]
    (enters_of Tryz.func101 (by kernel_rfl) rfl) g off zs.length c zs w
    (fun W x hB => (long1_any x.i x.bd x.A x.c W).mono (fun e w' hh => ⟨hh.1, hB.trans (hh.2.mono hB.size)⟩)) (Nat.le_refl _) (by omega) hg hc
  rw [List.take_length] at this
  rw [List.any_map]
  exact this

set_option maxHeartbeats 2000000 in
theorem islong_any (A1 : Option Addr) (c1 : Nat) (A2 : Option Addr) (c2 : Nat) (t : TxD) (w : World) (h : TxAt w A1 A2 t) (hl : t.ins.length ≤ 1000000000) :
    Calls Tryz.prog 58 #[.agg (txV A1 c1 A2 c2 t)] w fun e w' => e = .returned (.bool (longP t)) ∧ Below w.heap.size w w' := by
  obtain ⟨ins, outs, fee, exp⟩ := t
  have b0 := Blk.new w 26 (txV A1 c1 A2 c2 ⟨ins, outs, fee, exp⟩)
  have B0 : Below w.heap.size w (w.alloc (.cells (txV A1 c1 A2 c2 ⟨ins, outs, fee, exp⟩) 26)) := (Below.refl _ w).alloc (Nat.le_refl _) _
  have hcf := fun h0 : 0 < ins.length => cf_any A1 c1 ins h.bd.ins _ (h.ins.below B0) h0 hl
  obtain ⟨W, hW⟩ : ∃ W, w.alloc (.cells (txV A1 c1 A2 c2 ⟨ins, outs, fee, exp⟩) 26) = W := ⟨_, rfl⟩
  obtain ⟨g, hg⟩ : ∃ g, w.heap.size = g := ⟨_, rfl⟩
  rw [hW] at hcf
  rw [hW, hg] at b0
  rw [hW] at B0
  have q0 : W.cell? ⟨g, 0, none⟩ = some (.slice A1 ins.length c1) := b0.cell 0
  have q1 : W.cell? ⟨g, 1, none⟩ = some (.slice A2 outs.length c2) := b0.cell 1
  have q3 : W.cell? ⟨g, 3, none⟩ = some (.int .i64 exp) := b0.cell 3
  have w1 := within_any (ins.length : Int) 1 16 W
  have w2 := within_any (outs.length : Int) 1 16 W
  have w3 := within_any exp 0 1099511627776 W
  unfold txV at hW ⊢
  unfold longP
  simp only at hW ⊢
  have HW := Lib.hid hW
  have HG := Lib.hid hg
  have HB := Lib.hid B0
  clear hW hg B0 b0 h hl
  have e1 : decide ((1 : Int) ≤ (ins.length : Int) ∧ (ins.length : Int) ≤ 16) = decide (1 ≤ ins.length ∧ ins.length ≤ 16) := by rw [decide_eq_decide]; omega
  have e2 : decide ((1 : Int) ≤ (outs.length : Int) ∧ (outs.length : Int) ≤ 16) = decide (1 ≤ outs.length ∧ outs.length ≤ 16) := by rw [decide_eq_decide]; omega
  rw [e1] at w1
  rw [e2] at w2
  clear e1 e2
  by_cases d1 : 1 ≤ ins.length ∧ ins.length ≤ 16
  · have hcf := hcf (by omega)
    have x1 : decide (1 ≤ ins.length ∧ ins.length ≤ 16) = true := by simpa using d1
    rw [x1] at w1 ⊢
    clear x1 d1
    obtain ⟨R, hR⟩ : ∃ R, ins.any inLongP = R := ⟨_, rfl⟩
    rw [hR] at hcf ⊢
    clear hR
    obtain ⟨n1, hn1⟩ : ∃ n, ins.length = n := ⟨_, rfl⟩
    rw [hn1] at hcf q0 w1 HW ⊢
    clear hn1
    by_cases d2 : 1 ≤ outs.length ∧ outs.length ≤ 16
    · have x1 : decide (1 ≤ outs.length ∧ outs.length ≤ 16) = true := by simpa using d2
      rw [x1] at w2 ⊢
      clear x1 d2
      obtain ⟨n2, hn2⟩ : ∃ n, outs.length = n := ⟨_, rfl⟩
      rw [hn2] at q1 w2 HW ⊢
      clear hn2
      by_cases d3 : 0 ≤ exp ∧ exp ≤ 1099511627776
      · have x1 : decide (0 ≤ exp ∧ exp ≤ 1099511627776) = true := by simpa using d3
        rw [x1] at w3 ⊢
        clear x1 d3
        rw [show (!true || (!true || (!true || R))) = R from rfl]
        go_enter Tryz.func58, Tryz.ntmps58
        go_upto_region 1 with fail
        rw [HW.out, HG.out]
        go_wp2_with fail
        with_reducible refine w1.mono ?_
        rintro e w' ⟨rfl, rfl⟩
        go_wp2_with fail
        with_reducible refine w2.mono ?_
        rintro e w' ⟨rfl, rfl⟩
        go_wp2_with fail
        with_reducible refine w3.mono ?_
        rintro e w' ⟨rfl, rfl⟩
        go_wp2_with fail
        with_reducible refine hcf.mono ?_
        rintro e w' ⟨rfl, hb⟩
        have HB2 := Lib.hid (HB.out.trans (hb.mono HB.out.size))
        clear hb
        go_wp2_with fail
        go_ret
        exact ⟨rfl, HB2.out⟩
      · have x1 : decide (0 ≤ exp ∧ exp ≤ 1099511627776) = false := by simpa using d3
        rw [x1] at w3 ⊢
        clear x1 d3
        rw [show (!true || (!true || (!false || R))) = true from rfl]
        go_enter Tryz.func58, Tryz.ntmps58
        go_upto_region 1 with fail
        rw [HW.out, HG.out]
        go_wp2_with fail
        with_reducible refine w1.mono ?_
        rintro e w' ⟨rfl, rfl⟩
        go_wp2_with fail
        with_reducible refine w2.mono ?_
        rintro e w' ⟨rfl, rfl⟩
        go_wp2_with fail
        with_reducible refine w3.mono ?_
        rintro e w' ⟨rfl, rfl⟩
        go_wp2_with fail
        go_ret
        exact ⟨rfl, HB.out⟩
    · have x1 : decide (1 ≤ outs.length ∧ outs.length ≤ 16) = false := by simpa using d2
      rw [x1] at w2 ⊢
      clear x1 d2
      obtain ⟨n2, hn2⟩ : ∃ n, outs.length = n := ⟨_, rfl⟩
      rw [hn2] at q1 w2 HW ⊢
      clear hn2
      rw [show ∀ x : Bool, (!true || (!false || x)) = true from fun _ => rfl]
      go_enter Tryz.func58, Tryz.ntmps58
      go_upto_region 1 with fail
      rw [HW.out, HG.out]
      go_wp2_with fail
      with_reducible refine w1.mono ?_
      rintro e w' ⟨rfl, rfl⟩
      go_wp2_with fail
      with_reducible refine w2.mono ?_
      rintro e w' ⟨rfl, rfl⟩
      go_wp2_with fail
      go_ret
      exact ⟨rfl, HB.out⟩
  · have x1 : decide (1 ≤ ins.length ∧ ins.length ≤ 16) = false := by simpa using d1
    rw [x1] at w1 ⊢
    clear x1 d1 hcf
    obtain ⟨n1, hn1⟩ : ∃ n, ins.length = n := ⟨_, rfl⟩
    rw [hn1] at q0 w1 HW
    rw [hn1]
    clear hn1
    rw [show ∀ x : Bool, (!false || x) = true from fun _ => rfl]
    go_enter Tryz.func58, Tryz.ntmps58
    go_upto_region 1 with fail
    rw [HW.out, HG.out]
    go_wp2_with fail
    with_reducible refine w1.mono ?_
    rintro e w' ⟨rfl, rfl⟩
    go_wp2_with fail
    go_ret
    exact ⟨rfl, HB.out⟩
end Go.Proofs.YtdkanehjahpehaaGreatDoor
end

section
namespace Go.Proofs.YtdkanehjahpehaaGreatDoor
open Go.RowKit Go.Shelf Go.Maps
set_option maxRecDepth 100000

theorem mapM_map {α β : Type} (f : α → Option β) (g : α → β) : ∀ l : List α, (∀ x ∈ l, f x = some (g x)) → l.mapM f = some (l.map g)
  | [], _ => rfl
  | x :: l, h => by
    rw [List.mapM_cons, h x (by simp), mapM_map f g l (fun y hy => h y (by simp [hy]))]
    rfl
theorem uPtS : ∃ f0 f1 : Field, Tryz.prog.underlying 75 = some (.struct #[f0, f1]) ∧ f0.type = 48 ∧ f1.type = 3 ∧ f0.offset = 0 ∧ f1.offset = 32 ∧ f0.name ≠ "_" ∧ f1.name ≠ "_" :=
  ⟨_, _, Tryz.underlying75, rfl, rfl, rfl, rfl, by decide, by decide⟩
theorem uId : Tryz.prog.underlying 48 = some (.array 32 5) := by kernel_rfl
theorem uU8 : Tryz.prog.underlying 5 = some (.int .u8) := by kernel_rfl
theorem uI64 : Tryz.prog.underlying 3 = some (.int .i64) := by kernel_rfl
theorem cId : Tryz.prog.cellsOf 48 = 32 := by kernel_rfl
theorem cU8 : Tryz.prog.cellsOf 5 = 1 := by kernel_rfl
theorem cI64 : Tryz.prog.cellsOf 3 = 1 := by kernel_rfl
theorem cPt : Tryz.prog.cellsOf 75 = 33 := by kernel_rfl
theorem wf_u8 {x : Int} (h : 0 ≤ x ∧ x ≤ 255) : (Lit.int .u8 x).wf = true := by
  simp only [Lit.wf]
  rw [show IntKind.u8.min = 0 from rfl, show IntKind.u8.max = 255 from rfl]
  simp [h]
theorem wf_i64' {x : Int} (h : -9223372036854775808 ≤ x ∧ x ≤ 9223372036854775807) : (Lit.int .i64 x).wf = true := by
  simp only [Lit.wf]
  rw [show IntKind.i64.min = -9223372036854775808 from rfl, show IntKind.i64.max = 9223372036854775807 from rfl]
  simp [h]
theorem lits_u8 (d : Nat) {x : Int} (h : 0 ≤ x ∧ x ≤ 255) : Tryz.prog.keyLits (d + 1) 5 [.int .u8 x] = some [.int .u8 x] := by
  unfold Program.keyLits
  simp [wf_u8 h]
theorem lits_i64 (d : Nat) {x : Int} (h : -9223372036854775808 ≤ x ∧ x ≤ 9223372036854775807) : Tryz.prog.keyLits (d + 1) 3 [.int .i64 x] = some [.int .i64 x] := by
  unfold Program.keyLits
  simp [wf_i64' h]
theorem lits_id (d : Nat) {tx : List Int} (hl : tx.length = 32) (hb : ∀ x ∈ tx, 0 ≤ x ∧ x ≤ 255) : Tryz.prog.keyLits (d + 2) 48 (bys tx) = some (tx.map (Lit.int .u8)) := by
  have e : (List.range 32).mapM (fun i => Tryz.prog.keyLits (d + 1) 5 (((bys tx).drop (i * 1)).take 1)) = some ((List.range 32).map fun i => [Lit.int .u8 (tx.getD i 0)]) := by
    refine mapM_map _ _ _ (fun i hi => ?_)
    have hi' : i < tx.length := by have := List.mem_range.1 hi; omega
    have : ((bys tx).drop (i * 1)).take 1 = [.int .u8 (tx.getD i 0)] := by
      rw [Nat.mul_one, List.drop_eq_getElem_cons (by simpa [bys_length] using hi')]
      simp [bys, List.getD, hi']
    rw [this]
    exact lits_u8 d (by
      have : tx.getD i 0 = tx[i] := by simp [List.getD, hi']
      rw [this]
      exact hb _ (List.getElem_mem hi'))
  unfold Program.keyLits
  simp only [uId]
  rw [if_pos (by rw [cId, bys_length, hl]), cU8, e]
  simp only [Option.map_some, Option.some.injEq]
  apply List.ext_getElem?
  intro j
  have f1 : ((List.range 32).map fun i => [Lit.int .u8 (tx.getD i 0)]).flatten = (List.range 32).map fun i => Lit.int .u8 (tx.getD i 0) := by
    rw [← List.flatMap_def]
    induction (List.range 32) with
    | nil => rfl
    | cons x l ih => rw [List.flatMap_cons, ih]; rfl
  rw [f1]
  simp only [List.getElem?_map]
  by_cases hj : j < 32
  · have hj' : j < tx.length := by omega
    rw [List.getElem?_range hj]
    simp [List.getD, hj']
  · rw [List.getElem?_eq_none (by simp; omega), List.getElem?_eq_none (by omega)]
    rfl
/-- What a point reads as, as a key. -/
def ptK (tx : List Int) (ix : Int) : Lit := .string (keyBytes (tx.map (Lit.int .u8) ++ [.int .i64 ix]))
theorem ptLaw : Go.WideMaps.KeyLaw Tryz.prog 75 := deep_law_laid (by kernel_rfl) (m := 4) (by omega) (of_decide_eq_true (by kernel_rfl)) (by kernel_rfl) (by obtain ⟨f0, f1, h, _⟩ := uPtS; rw [h])
theorem key_pt {tx : List Int} {ix : Int} (hl : tx.length = 32) (hb : ∀ x ∈ tx, 0 ≤ x ∧ x ≤ 255) (hx : -9223372036854775808 ≤ ix ∧ ix ≤ 9223372036854775807) :
    keyOf Tryz.prog 75 (.agg (ptL tx ix).toArray) = some (ptK tx ix) := by
  obtain ⟨f0, f1, hu, t0, t1, o0, o1, n0, n1⟩ := uPtS
  have hk : Tryz.prog.keyType 75 = true := by kernel_rfl
  obtain ⟨m, hm⟩ : ∃ m, Tryz.prog.types.size = m + 2 := ⟨Tryz.prog.types.size - 2, by have : 2 ≤ Tryz.prog.types.size := of_decide_eq_true (by kernel_rfl); omega⟩
  unfold keyOf
  simp only [hu]
  rw [if_pos (by rw [hk]; simp [Value.formed, hu, cPt, ptL_len hl]), hm]
  unfold Program.keyLits
  simp only [hu, Value.cells]
  have d0 : ((ptL tx ix).drop 0).take 32 = bys tx := by
    rw [List.drop_zero]
    unfold ptL
    rw [List.take_append_of_le_length (by rw [bys_length]; omega), List.take_of_length_le (by rw [bys_length]; omega)]
  have d1 : ((ptL tx ix).drop 32).take 1 = [.int .i64 ix] := by
    unfold ptL
    rw [List.drop_append_of_le_length (by rw [bys_length]; omega), List.drop_of_length_le (by rw [bys_length]; omega)]
    rfl
  rw [if_pos ⟨by rw [cPt]; exact ptL_len hl ix, by simp [n0, n1]⟩]
  rw [List.mapM_cons, List.mapM_cons, List.mapM_nil, t0, t1, o0, o1, cId, cI64, d0, d1, lits_id _ hl hb, lits_i64 _ hx]
  simp [ptK]

/-! ### The set -/
theorem uMap : Tryz.prog.underlying 192 = some (.map 75 3) := by kernel_rfl
theorem zI64 (w : World) : (zeroValue 3).run Tryz.prog w = .ok (.int .i64 0) w := by kernel_rfl
theorem ptKeyed : Keyed Tryz.prog 75 := Keyed.of_law ptLaw
/-- A point. -/
structure PtOk (p : List Int × Int) : Prop where
  len : p.1.length = 32
  tx : ∀ x ∈ p.1, 0 ≤ x ∧ x ≤ 255
  ix : -9223372036854775808 ≤ p.2 ∧ p.2 ≤ 9223372036854775807
theorem PtOk.key {p : List Int × Int} (h : PtOk p) : keyOf Tryz.prog 75 (.agg (ptL p.1 p.2).toArray) = some (ptK p.1 p.2) := key_pt h.len h.tx h.ix
theorem ptL_inj {p q : List Int × Int} (hp : PtOk p) (hq : PtOk q) (h : (Value.agg (ptL p.1 p.2).toArray) = .agg (ptL q.1 q.2).toArray) : p = q := by
  have e : ptL p.1 p.2 = ptL q.1 q.2 := by simpa using h
  unfold ptL at e
  obtain ⟨e1, e2⟩ := List.append_inj e (by rw [bys_length, bys_length, hp.len, hq.len])
  have e3 : p.1 = q.1 := by
    unfold bys at e1
    exact (List.map_inj_right (fun a b h => by simpa using h)).1 e1
  have e4 : p.2 = q.2 := by simpa using e2
  exact Prod.ext e3 e4
theorem ptK_inj {p q : List Int × Int} (hp : PtOk p) (hq : PtOk q) (h : ptK p.1 p.2 = ptK q.1 q.2) : p = q :=
  ptL_inj hp hq (ptKeyed.inj hp.key (h ▸ hq.key))

/-- Block b is the set of these points: each has 1. -/
def SeenAt (w : World) (b n : Nat) (l : List (List Int × Int)) : Prop :=
  ∃ D : DataW Nat, w.ownsMap Tryz.prog 75 (plainElem Tryz.prog 3) b n D ∧
    ∀ p, PtOk p → (p ∈ l → ∀ z, D.atKey (ptK p.1 p.2) z = .lit (.int .i64 1)) ∧ (p ∉ l → ∀ z, D.atKey (ptK p.1 p.2) z = z)

theorem SeenAt.made (w : World) : SeenAt (w.alloc (.map #[] 0)) w.heap.size 0 [] :=
  ⟨_, World.ownsMap_made _ _ _ _, fun p _ => ⟨fun h => absurd h (by simp), fun _ z => WideAt.atKey_none z (by simp)⟩⟩
theorem SeenAt.kept {w w' : World} {b n : Nat} {l : List (List Int × Int)} {row : Option Nat} (h : SeenAt w b n l) (hg : w.grownBy w' row) (hne : some b ≠ row) : SeenAt w' b n l := by
  obtain ⟨D, h1, h2⟩ := h
  exact ⟨D, h1.kept hg hne, h2⟩
theorem SeenAt.lt {w : World} {b n : Nat} {l : List (List Int × Int)} (h : SeenAt w b n l) : b < w.heap.size := by
  obtain ⟨D, h1, _⟩ := h
  exact h1.lt
theorem SeenAt.look {w : World} {b n : Nat} {l : List (List Int × Int)} (h : SeenAt w b n l) {p : List Int × Int} (hp : PtOk p) :
    (Instr.lookup 192 (.map (some b)) (.agg (ptL p.1 p.2).toArray) false).run Tryz.prog w = .ok (.int .i64 (if p ∈ l then 1 else 0)) w := by
  obtain ⟨D, h1, h2⟩ := h
  obtain ⟨c, hr, hat, _⟩ := h1.lookup_int ptKeyed uMap uI64 (zI64 w) hp.key
  rw [hr]
  by_cases hm : p ∈ l
  · rw [(h2 p hp).1 hm] at hat
    rw [if_pos hm]
    simp only [DataW.lit.injEq, Lit.int.injEq, true_and] at hat
    rw [hat]
  · rw [(h2 p hp).2 hm] at hat
    rw [if_neg hm]
    simp only [DataW.lit.injEq, Lit.int.injEq, true_and] at hat
    rw [hat]

theorem setBlock_twice (w : World) (b : Nat) (o o' : Obj) : ChangeMaps.setBlock (ChangeMaps.setBlock w b o) b o' = ChangeMaps.setBlock w b o' := by
  unfold ChangeMaps.setBlock
  simp

/-- 'm[k]++' at a point that is not there. -/
theorem SeenAt.incr {w : World} {b n : Nat} {l : List (List Int × Int)} (h : SeenAt w b n l) (hn : n < 1000000000) {p : List Int × Int} (hp : PtOk p) (hm : p ∉ l) :
    ∃ (st : Nat) (w1 w2 : World), (Instr.mapEntry 192 (.map (some b)) (.agg (ptL p.1 p.2).toArray)).run Tryz.prog w = .ok (.tuple #[.int .i64 0, .int .i64 (st : Int)]) w1 ∧
      (Instr.lookup 192 (.map (some b)) (.agg (ptL p.1 p.2).toArray) false).run Tryz.prog w1 = .ok (.int .i64 0) w1 ∧
      (Instr.entryStore 192 (.map (some b)) (.int .i64 (st : Int)) (.int .i64 1)).run Tryz.prog w1 = .ok () w2 ∧
      SeenAt w2 b (n + 1) (l ++ [p]) ∧ w.grownBy w2 (some b) ∧ w.grownBy w1 (some b) := by
  obtain ⟨D, h1, h2⟩ := h
  obtain ⟨w2, hu2, ho2, hg2⟩ := h1.update (key := .agg (ptL p.1 p.2).toArray) (val := .int .i64 1) ptKeyed uMap (by unfold maxLen; omega) hp.key (plainElem_int uI64 (wf_i64' (by omega)))
  obtain ⟨w1, hu1, ho1, hg1⟩ := h1.update (key := .agg (ptL p.1 p.2).toArray) (val := .int .i64 0) ptKeyed uMap (by unfold maxLen; omega) hp.key (plainElem_int uI64 (wf_i64' (by omega)))
  obtain ⟨c, hl1, hat1, _⟩ := ho1.lookup_int ptKeyed uMap uI64 (zI64 w1) hp.key
  rw [Maps.atKey_put_same h1.isMap (ptKeyed.key hp.key)] at hat1
  obtain rfl : c = 0 := by
    simp only [DataW.lit.injEq, Lit.int.injEq, true_and] at hat1
    exact hat1.symm
  obtain ⟨es, clock, hb, F, hs, hD⟩ := h1
  have hno : ∀ x ∈ es.toList, x.key ≠ .agg (ptL p.1 p.2).toArray := by
    intro x hx hk
    obtain ⟨y, hy⟩ := F.reads x hx
    obtain ⟨z, hz⟩ : ∃ z, plainElem (H := Nat) Tryz.prog 3 x.val = some z := by
      unfold Go.WideElems.rd at hy
      cases hq : plainElem (H := Nat) Tryz.prog 3 x.val with
      | none => rw [hq] at hy; cases hkk : keyOf Tryz.prog 75 x.key <;> simp [hkk] at hy
      | some z => exact ⟨z, rfl⟩
    have e1 := Go.WideElems.atKey_some ptLaw F hp.key hx hk hz (.lit (.int .i64 5))
    have e2 := Go.WideElems.atKey_some ptLaw F hp.key hx hk hz (.lit (.int .i64 6))
    rw [← hD, (h2 p hp).2 hm] at e1 e2
    rw [← e2] at e1
    simp at e1
  have hfind : (Instr.findKey 75 (.agg (ptL p.1 p.2).toArray) es.toList).run Tryz.prog w = .ok none w := by
    rcases ptLaw.find w hp.key es.toList F.keys with ⟨h', _⟩ | ⟨j, e0, _, h', h''⟩
    · exact h'
    · exact absurd h'' (hno e0 (List.mem_of_getElem? h'))
  have hck := ptLaw.check w false hp.key
  have hmu : ∀ val, (Instr.mapUpdate 192 (.map (some b)) (.agg (ptL p.1 p.2).toArray) val).run Tryz.prog w = .ok () (ChangeMaps.setBlock w b (.map (es.push ⟨.agg (ptL p.1 p.2).toArray, val, clock⟩) (clock + 1))) := by
    intro val
    simp [Instr.mapUpdate, run_underlying uMap, MapKept.run_getObj_map hb, hck, hfind, MapKept.run_setObj_map _ hb, Result.andThen, ChangeMaps.setBlock]
  rw [hmu] at hu1 hu2
  simp only [Result.ok.injEq, true_and] at hu1 hu2
  have hb1 : w1.heap[b]? = some (.map (es.push ⟨.agg (ptL p.1 p.2).toArray, .int .i64 0, clock⟩) (clock + 1)) := by
    rw [← hu1]; exact ChangeMaps.heap_setBlock_same hb _
  obtain ⟨s1, s2, _⟩ := F.stamped
  refine ⟨clock, w1, w2, ?_, hl1, ?_, ⟨_, ho2, fun q hq => ?_⟩, hg2, hg1⟩
  · rw [← hu1]
    simp [Instr.mapEntry, run_underlying uMap, MapKept.run_getObj_map hb, hck, hfind, MapKept.run_setObj_map _ hb, Result.andThen, ChangeMaps.setBlock, goInt]
  · have hidx : (es.push ⟨.agg (ptL p.1 p.2).toArray, .int .i64 0, clock⟩).findIdx? (fun e => ((e.born : Nat) : Int) == ((clock : Nat) : Int)) = some es.size := by
      rw [Go.WideElems.findIdx_arr]
      have := Go.WideElems.findIdx_born (l := (es.push ⟨.agg (ptL p.1 p.2).toArray, .int .i64 0, clock⟩).toList) (j := es.size) (e0 := ⟨.agg (ptL p.1 p.2).toArray, .int .i64 0, clock⟩) (by
        simp only [Array.toList_push, List.map_append, List.map_cons, List.map_nil]
        refine List.nodup_append.2 ⟨s2, by simp, fun a ha c hc e1 => ?_⟩
        simp only [List.mem_singleton] at hc
        obtain ⟨x, hx, rfl⟩ := List.mem_map.1 ha
        have := s1 x hx
        omega) (by simp)
      exact this
    have hmod : (es.push ⟨.agg (ptL p.1 p.2).toArray, .int .i64 0, clock⟩).modify es.size (fun e => { e with val := .int .i64 1 }) = es.push ⟨.agg (ptL p.1 p.2).toArray, .int .i64 1, clock⟩ := by
      apply Array.ext'
      rw [Array.toList_modify, Array.toList_push, Array.toList_push, ← Array.length_toList, Go.WideElems.modify_last]
    rw [← hu2, ← setBlock_twice w b (.map (es.push ⟨.agg (ptL p.1 p.2).toArray, .int .i64 0, clock⟩) (clock + 1)), hu1]
    simp [Instr.entryStore, MapKept.run_getObj_map hb1, asInt, asIntOf, hidx, hmod, MapKept.run_setObj_map _ hb1, Result.andThen, ChangeMaps.setBlock]
  · by_cases e : q = p
    · subst e
      refine ⟨fun _ z => Maps.atKey_put_same ⟨_, hD⟩ (ptKeyed.key hp.key) _ z, fun h => absurd (by simp) h⟩
    · have hk : ptK q.1 q.2 ≠ ptK p.1 p.2 := fun h => e (ptK_inj hq hp h)
      refine ⟨fun h z => ?_, fun h z => ?_⟩
      · rw [Maps.atKey_put_other hk]
        exact (h2 q hq).1 (by simpa [e] using h) z
      · rw [Maps.atKey_put_other hk]
        exact (h2 q hq).2 (fun h' => h (by simp [h'])) z
end Go.Proofs.YtdkanehjahpehaaGreatDoor
end

section
namespace Go.Proofs.YtdkanehjahpehaaGreatDoor
open Go.RowKit Go.Shelf Go.Maps
set_option maxRecDepth 100000
attribute [local go_sem ↓] ldIn_of stIn_of alIn_of ldPt_of

theorem mkMap (w : World) : (Instr.makeMap 192 none).run Tryz.prog w = .ok (.map (some w.heap.size)) (w.alloc (.map #[] 0)) := run_makeMap _ w
theorem ptsP_take (l : List InD) (i : Nat) : (ptsP l).take i = ptsP (l.take i) := by simp [ptsP, List.map_take]
theorem InD.Bd.pt {i : InD} (h : i.Bd) : PtOk (i.tx, i.ix) := ⟨h.len, h.tx, h.ix⟩
theorem SeenAt.drew {w : World} {b n : Nat} {l : List (List Int × Int)} (h : SeenAt w b n l) : SeenAt w.drew b n l := by
  obtain ⟨D, h1, h2⟩ := h
  exact ⟨D, h1.drew, h2⟩
theorem inV_pt {i : InD} (h : i.Bd) (A : Option Addr) (c : Nat) : ((inV i A c).toArray.toList.drop 0).take 33 = ptL i.tx i.ix := by
  simp only [List.drop_zero]
  unfold inV
  rw [List.take_append_of_le_length (by rw [ptL_len h.len]; omega), List.take_of_length_le (by rw [ptL_len h.len]; omega)]

set_option maxHeartbeats 2000000 in
theorem istwice_any (A1 : Option Addr) (c1 : Nat) (A2 : Option Addr) (c2 : Nat) (t : TxD) (w : World) (h : TxAt w A1 A2 t) (hl : t.ins.length ≤ 1000000) :
    Calls Tryz.prog 59 #[.agg (txV A1 c1 A2 c2 t)] w fun e w' => e = .returned (.bool (twiceP t.ins)) ∧ Below w.heap.size w w' := by
  obtain ⟨ins, outs, fee, exp⟩ := t
  have b0 := Blk.new w 26 (txV A1 c1 A2 c2 ⟨ins, outs, fee, exp⟩)
  have B0 : Below w.heap.size w (w.alloc (.cells (txV A1 c1 A2 c2 ⟨ins, outs, fee, exp⟩) 26)) := (Below.refl _ w).alloc (Nat.le_refl _) _
  obtain ⟨W, hW⟩ : ∃ W, w.alloc (.cells (txV A1 c1 A2 c2 ⟨ins, outs, fee, exp⟩) 26) = W := ⟨_, rfl⟩
  obtain ⟨g, hg⟩ : ∃ g, w.heap.size = g := ⟨_, rfl⟩
  have s0 := SeenAt.made W
  rw [hW] at B0
  rw [hW, hg] at b0
  have b1 := b0.alloc (.map #[] 0)
  have B1 : Below w.heap.size w (W.alloc (.map #[] 0)) := B0.alloc B0.size _
  obtain ⟨W1, hW1⟩ : ∃ W1, W.alloc (.map #[] 0) = W1 := ⟨_, rfl⟩
  obtain ⟨b, hbb⟩ : ∃ b, W.heap.size = b := ⟨_, rfl⟩
  rw [hW1] at B1 s0 b1
  rw [hbb] at s0
  have q0 : W1.cell? ⟨g, 0, none⟩ = some (.slice A1 ins.length c1) := b1.cell 0
  obtain ⟨n, hn⟩ : ∃ n, ins.length = n := ⟨_, rfl⟩
  have hBW : Below w.heap.size w W1 := B1
  obtain ⟨Z, hal, hst⟩ := alst (P := Tryz.prog) (t := 77) iIn zIn
  obtain ⟨R, hR⟩ : ∃ R, twiceP ins = R := ⟨_, rfl⟩
  unfold txV at hW ⊢
  simp only at hW hl ⊢
  have hh := h.ins
  have hbd := h.bd.ins
  simp only at hh hbd
  rw [hR]
  rw [hn] at hW hl q0 ⊢
  have hge : w.heap.size ≤ b := by rw [← hbb]; exact B0.size
  have HGE := Lib.hid hge
  clear hge
  have HW := Lib.hid hW
  have HG := Lib.hid hg
  have HW1 := Lib.hid hW1
  have HBB := Lib.hid hbb
  have HBW := Lib.hid hBW
  have HN := Lib.hid hn
  have HH := Lib.hid hh
  have HBD := Lib.hid hbd
  have HS0 := Lib.hid s0
  have HR := Lib.hid hR
  have HST := Lib.hid hst
  have mkm := mkMap
  clear hW hg B0 b0 h hW1 hbb s0 b1 hn hBW B1 hh hbd hR hst
  go_enter Tryz.func59, Tryz.ntmps59
  go_upto_region 1 with fail
  rw [HW.out, HG.out]
  go_upto_region 2 with fail
  rw [HW1.out, HBB.out]
  go_upto_region 3 with fail
  go_loopg [5, 10] n (fun kk _ s wr => ∃ i : Nat, i + kk = n ∧ s = .int .i64 (i : Int) ∧ SeenAt wr b i (ptsP (ins.take i)) ∧ (ptsP (ins.take i)).Nodup ∧ Below w.heap.size w wr)
  case atStart => exact ⟨0, by omega, rfl, by simpa [ptsP] using HS0.out, by simp [ptsP], HBW.out⟩
  case round =>
    obtain ⟨i, hi, rfl, hs, hnd, hB⟩ := hrel
    by_cases hlt : i < n
    · have hltI : (i : Int) < (n : Int) := by omega
      have hil : i < ins.length := by rw [HN.out]; exact hlt
      obtain ⟨g', off, As, cs, rfl, hg', hat⟩ := HH.out.below (hB.mono (Nat.le_refl _)) i hil
      have hbdi := HBD.out _ (List.getElem_mem hil)
      have hIn := LDs_agg uIn iIn wr g' (off + i * 35) (inV ins[i] As cs) (inV_len hbdi _ _) hat.cell
      have hSt := HST.out wr (inV ins[i] As cs) (inV_len hbdi _ _) (inV_one _ _ _)
      have b5 := Blk.new wr 77 (inV ins[i] As cs).toArray
      have hPt := LDs_aggB uPt iPt b5 (off := 0) (ptL ins[i].tx ins[i].ix) (ptL_len hbdi.len _) (inV_pt hbdi As cs)
      have hs5 := hs.kept (World.grownBy_alloc wr (.cells (inV ins[i] As cs).toArray 77) none) (by simp)
      have B5 := hB.alloc hB.size (.cells (inV ins[i] As cs).toArray 77)
      have hpk := hbdi.pt
      have htk : ptsP (ins.take (i + 1)) = ptsP (ins.take i) ++ [(ins[i].tx, ins[i].ix)] := by
        unfold ptsP; rw [List.take_succ_eq_append_getElem hil, List.map_append]; rfl
      have hlook := hs5.look hpk
      simp only at hlook hPt
      obtain ⟨W5, hW5⟩ : ∃ W5, wr.alloc (.cells (inV ins[i] As cs).toArray 77) = W5 := ⟨_, rfl⟩
      rw [hW5] at hSt b5 hPt hs5 B5 hlook
      obtain ⟨d, hd⟩ : ∃ d, wr.heap.size = d := ⟨_, rfl⟩
      rw [hd] at hPt b5
      obtain ⟨xs, hxs⟩ : ∃ xs, (inV ins[i] As cs).toArray = xs := ⟨_, rfl⟩
      rw [hxs] at hIn hSt b5 hW5
      obtain ⟨ps, hps⟩ : ∃ ps, (ptL ins[i].tx ins[i].ix).toArray = ps := ⟨_, rfl⟩
      rw [hps] at hPt hlook
      have hdup : twiceP ins = false → (ptsP (ins.take (i + 1))).Nodup := by
        intro hf
        have : (ptsP ins).Nodup := by simpa [twiceP] using hf
        exact (ptsP_take ins (i + 1)) ▸ this.sublist (List.take_sublist _ _)
      by_cases hmem : (ins[i].tx, ins[i].ix) ∈ ptsP (ins.take i)
      · have hRt : R = true := by
          cases hq : R
          · have := hdup (HR.out.trans hq)
            rw [htk, List.nodup_append] at this
            exact absurd rfl (this.2.2 _ hmem _ (by simp))
          · rfl
        rw [if_pos hmem] at hlook
        subst hRt
        have HB5 := Lib.hid B5
        have HW5 := Lib.hid hW5
        have HD := Lib.hid hd
        clear hmem hs hB hat hbdi hs5 B5 hpk htk hdup hnd hxs hps hW5 hd b5
        go_upto_region 5 with fail
        rw [HD.out]
        go_wp2_with fail
        go_ret
        exact ⟨rfl, HB5.out⟩
      · rw [if_neg hmem] at hlook
        obtain ⟨st, w1, w2, hme, hl1, hes, hs2, hg2, hg1⟩ := SeenAt.incr (w := W5.drew) hs5.drew (by omega) hpk hmem
        have hne : d ≠ b := fun e => by
          have := hs.lt
          omega
        have b6 := (b5.drew).grown hg1 (fun e => hne (by simpa using e.symm))
        have hPt6 := LDs_aggB uPt iPt (b5.drew) (off := 0) (ptL ins[i].tx ins[i].ix) (ptL_len hbdi.len _) (by rw [← hxs]; exact inV_pt hbdi As cs)
        have B6 := B5.drew.grown hg2 B5.size (fun j hj => by
          cases hj
          exact HGE.out)
        have hlook' : (Instr.lookup 192 (.map (some b)) (.agg ps) false).run Tryz.prog W5.drew = .ok (.int .i64 0) W5.drew := by
          rw [← hps]
          have := (SeenAt.look (w := W5.drew) hs5.drew hpk)
          rw [if_neg hmem] at this
          exact this
        have hPt7 := LDs_aggB uPt iPt b6 (off := 0) (ptL ins[i].tx ins[i].ix) (ptL_len hbdi.len _) (by rw [← hxs]; exact inV_pt hbdi As cs)
        rw [hps] at hPt6 hPt7
        simp only at hme hl1 hes
        rw [hps] at hme hl1
        rw [← htk] at hs2
        have hnd2 : (ptsP (ins.take (i + 1))).Nodup := by
          rw [htk, List.nodup_append]
          exact ⟨hnd, by simp, fun a ha c hc => by simp only [List.mem_singleton] at hc; subst hc; exact fun e => hmem (e ▸ ha)⟩
        have hes2 : (Instr.entryStore 192 (.map (some b)) (.int .i64 (st : Int)) (.int .i64 (IntKind.i64.wrap 1))).run Tryz.prog w1 = .ok () w2 := hes
        have HB6 := Lib.hid B6
        have HW5 := Lib.hid hW5
        have HD := Lib.hid hd
        have HS2 := Lib.hid hs2
        have HND2 := Lib.hid hnd2
        clear hmem hs hB hat hbdi hs5 B5 hpk htk hdup hnd hxs hps hW5 hd b5 hs2 hnd2 B6
        go_upto_region 5 with fail
        rw [HD.out]
        go_upto_region 7 with fail
        let S0 : World → Prop := fun X => (LDs 75 (.pointer (some ⟨d, 0, none⟩))).run Tryz.prog X = .ok (.agg ps) X ∧ (Instr.lookup 192 (.map (some b)) (.agg ps) false).run Tryz.prog X = .ok (.int .i64 0) X
        have hS5 : S0 W5.drew := ⟨hPt6, hlook'⟩
        have hS1 : S0 w1 := ⟨hPt7, hl1⟩
        have HS1 := Lib.hid hS1
        refine wp_txO [(0, 3), (1, 3), (2, 0), (3, 0), (4, 3), (5, 1), (6, 3), (7, 2)] S0 (by kernel_rfl) (by kernel_rfl) (by kernel_rfl) (by kernel_rfl) hS5 ?_
        clear hS5 hS1 hPt hlook hPt6 hlook' hPt7 hl1
        iterate 2 (with_reducible refine wpTxO_evN (o := ?_) (v := ?_) (a' := ?_) (by with_unfolding_all rfl) (by with_unfolding_all rfl) (fun W' => ?_) ?_ ?_; rotate_left 2; (focus (go_simp <;> with_reducible rfl)); focus (go_simp <;> with_reducible rfl))
        iterate 2 (with_reducible refine wpTxO_takeN (o := ?_) (v := ?_) (a' := ?_) (by with_unfolding_all rfl) (by with_unfolding_all rfl) (fun W' hS' => ?_) ?_ ?_; rotate_left 2; (focus (have j0 := hS'.1; have j1 := hS'.2; clear hS'; go_simp <;> with_reducible rfl)); focus (go_simp <;> with_reducible rfl))
        iterate 1 (with_reducible refine wpTxO_evN (o := ?_) (v := ?_) (a' := ?_) (by with_unfolding_all rfl) (by with_unfolding_all rfl) (fun W' => ?_) ?_ ?_; rotate_left 2; (focus (go_simp <;> with_reducible rfl)); focus (go_simp <;> with_reducible rfl))
        with_reducible refine wpTxO_want (o := ?_) (by with_unfolding_all rfl) (by with_unfolding_all rfl) (fun K hK => ?_)
        go_simp
        with_reducible refine hK _ _ HS1.out ?_
        clear hK K
        iterate 1 (with_reducible refine wpTxO_evN (o := ?_) (v := ?_) (a' := ?_) (by with_unfolding_all rfl) (by with_unfolding_all rfl) (fun W' => ?_) ?_ ?_; rotate_left 2; (focus (go_simp <;> with_reducible rfl)); focus (go_simp <;> with_reducible rfl))
        with_reducible refine wpTxO_last (o := ?_) (by with_unfolding_all rfl) (by with_unfolding_all rfl) (fun K hK => ?_)
        go_simp
        with_reducible refine hK _ _ ?_
        clear hK K
        with_reducible refine wpTxO_nil ?_
        rw [noPan_normal]
        clear HS1 hes hes2 hme hg2 hg1 b6
        go_upto_region 8 with fail
        go_wp2_with fail
        go_roundg (n - (i + 1))
        case measure => omega
        case rel => exact ⟨i + 1, by omega, by go_num, HS2.out, HND2.out, HB6.out⟩
    · obtain rfl : i = n := by omega
      have hltI : ¬ (i : Int) < (i : Int) := by omega
      rw [List.take_of_length_le (by rw [HN.out]; exact Nat.le_refl _)] at hnd
      have hRf : R = false := by rw [← HR.out]; simp [twiceP, hnd]
      subst hRf
      have HB := Lib.hid hB
      clear hs hnd hB
      go_wp2_with fail
      go_ret
      exact ⟨rfl, HB.out⟩
end Go.Proofs.YtdkanehjahpehaaGreatDoor
end

section
namespace Go.Proofs.YtdkanehjahpehaaGreatDoor
open Go.RowKit Go.Shelf
set_option maxRecDepth 100000

theorem uU64s : Tryz.prog.underlying 78 = some (.slice 24) := by kernel_rfl
theorem iU64s : (Tryz.prog.info? 24).map (fun i => (i.zero.map (·.cells.size), i.size, i.bytes)) = some (some 1, 1, 8) := by kernel_rfl
theorem ap64_of (xs : Array Value) (t : TypeId) : Builtin.append_ #[78, 78] t xs = APs #[78, 78] t xs := rfl
attribute [local go_sem ↓] ldIn_of stIn_of alIn_of ldPt_of ldOut_of stOut_of alOut_of ap64_of
/-- A row of amounts of one's own. -/
def Own64 (B : Nat) (w : World) (v : Value) (l : List Int) : Prop := OwnW 24 .u64 B w v l

theorem inV_am {i : InD} (h : i.Bd) (A : Option Addr) (c : Nat) : (inV i A c).toArray[33]? = some (.int .u64 i.am) := by
  simp [inV, ptL, bys_length, h.len]
theorem outV_am {o : OutD} (h : o.Bd) : (outV o).toArray[32]? = some (.int .u64 o.am) := by
  simp [outV, bys_length, h.len]

set_option maxHeartbeats 4000000 in
theorem amounts_any (A1 : Option Addr) (c1 : Nat) (A2 : Option Addr) (c2 : Nat) (t : TxD) (w : World) (h : TxAt w A1 A2 t) (hl : t.ins.length ≤ 1000000) (hl2 : t.outs.length ≤ 1000000) :
    Calls Tryz.prog 57 #[.agg (txV A1 c1 A2 c2 t)] w fun e w' => ∃ v u, e = .returned (.tuple #[v, u]) ∧ Own64 w.heap.size w' v (t.ins.map (·.am)) ∧ Own64 w.heap.size w' u (t.outs.map (·.am)) ∧ Below w.heap.size w w' := by
  obtain ⟨ins, outs, fee, exp⟩ := t
  have b0 := Blk.new w 26 (txV A1 c1 A2 c2 ⟨ins, outs, fee, exp⟩)
  have B0 : Below w.heap.size w (w.alloc (.cells (txV A1 c1 A2 c2 ⟨ins, outs, fee, exp⟩) 26)) := (Below.refl _ w).alloc (Nat.le_refl _) _
  obtain ⟨W, hW⟩ : ∃ W, w.alloc (.cells (txV A1 c1 A2 c2 ⟨ins, outs, fee, exp⟩) 26) = W := ⟨_, rfl⟩
  obtain ⟨g, hg⟩ : ∃ g, w.heap.size = g := ⟨_, rfl⟩
  rw [hW] at B0
  rw [hW, hg] at b0
  have q0 : W.cell? ⟨g, 0, none⟩ = some (.slice A1 ins.length c1) := b0.cell 0
  have q1 : W.cell? ⟨g, 1, none⟩ = some (.slice A2 outs.length c2) := b0.cell 1
  have hgW : g < W.heap.size := b0.lt
  obtain ⟨n, hn⟩ : ∃ n, ins.length = n := ⟨_, rfl⟩
  obtain ⟨m, hm⟩ : ∃ m, outs.length = m := ⟨_, rfl⟩
  obtain ⟨Z, hal, hst⟩ := alst (P := Tryz.prog) (t := 77) iIn zIn
  obtain ⟨Y, hbl, hsu⟩ := alst (P := Tryz.prog) (t := 80) iOut zOut
  unfold txV at hW ⊢
  simp only at hW hl hl2 ⊢
  have hh := h.ins
  have hbd := h.bd.ins
  have ho := h.outs
  have hbo := h.bd.outs
  simp only at hh hbd ho hbo
  rw [hn, hm] at hW ⊢
  rw [hn] at q0 hl
  rw [hm] at q1 hl2
  have HW := Lib.hid hW
  have HG := Lib.hid hg
  have HN := Lib.hid hn
  have HM := Lib.hid hm
  have HH := Lib.hid hh
  have HBD := Lib.hid hbd
  have HO := Lib.hid ho
  have HBO := Lib.hid hbo
  have HST := Lib.hid hst
  have HSU := Lib.hid hsu
  have HB0 := Lib.hid B0
  clear hW hg B0 b0 h hn hm hh hbd hst ho hbo hsu
  go_enter Tryz.func57, Tryz.ntmps57
  go_upto_region 1 with fail
  rw [HW.out, HG.out]
  go_upto_region 2 with fail
  go_loopg [2, 5, 11] n (fun kk v _ s wr => ∃ i : Nat, i + kk = n ∧ s = .int .i64 (i : Int) ∧ Own64 W.heap.size wr v ((ins.map (·.am)).take i) ∧ Below W.heap.size W wr)
  case atStart => exact ⟨0, by omega, rfl, OwnW.nil _ _ _ _, Below.refl _ _⟩
  case round =>
    obtain ⟨i, hi, rfl, hv, hB⟩ := hrel
    have hBw := HB0.out.trans (hB.mono HB0.out.size)
    by_cases hlt : i < n
    · have hltI : (i : Int) < (n : Int) := by omega
      have hil : i < ins.length := by rw [HN.out]; exact hlt
      obtain ⟨g', off, As, cs, rfl, hg', hat⟩ := HH.out.below hBw i hil
      have hbdi := HBD.out _ (List.getElem_mem hil)
      have hIn := LDs_agg uIn iIn wr g' (off + i * 35) (inV ins[i] As cs) (inV_len hbdi _ _) hat.cell
      have hSt := HST.out wr (inV ins[i] As cs) (inV_len hbdi _ _) (inV_one _ _ _)
      have b5 := Blk.new wr 77 (inV ins[i] As cs).toArray
      have B5 := hB.alloc hB.size (.cells (inV ins[i] As cs).toArray 77)
      have hv5 := hv.alloc (.cells (inV ins[i] As cs).toArray 77)
      have htk : (ins.map (·.am)).take (i + 1) = (ins.map (·.am)).take i ++ [ins[i].am] := by
        rw [List.take_succ_eq_append_getElem (by simpa using hil)]; simp
      have htl : ((ins.map (·.am)).take i).length = i := by simp; omega
      obtain ⟨W5, hW5⟩ : ∃ W5, wr.alloc (.cells (inV ins[i] As cs).toArray 77) = W5 := ⟨_, rfl⟩
      rw [hW5] at hSt b5 B5 hv5
      have qa : W5.cell? ⟨wr.heap.size, 33, none⟩ = some (.int .u64 ins[i].am) := by rw [b5.cell 33]; exact inV_am hbdi As cs
      obtain ⟨xs, hxs⟩ : ∃ xs, (inV ins[i] As cs).toArray = xs := ⟨_, rfl⟩
      rw [hxs] at hIn hSt
      obtain ⟨v', w', hap, ho', hf', _⟩ := appW_one (ty := 78) uU64s iU64s (by omega) hv5 ins[i].am (by omega) B5.size
      obtain ⟨A6, c6, hvv⟩ := hv.form
      rw [htl] at hvv
      subst hvv
      rw [← htk] at ho'
      obtain ⟨A7, c7, rfl⟩ := ho'.form
      have hlv : ((ins.map (·.am)).take (i + 1)).length = i + 1 := by simp; omega
      rw [hlv] at hap ho'
      have HO' := Lib.hid ho'
      have HB6 := Lib.hid (B5.trans ((hv5.step hf' B5.size).mono (Nat.le_refl _)))
      clear ho' hf' hv5 hv hat hbdi b5 B5 htk htl hlv hxs hW5 hB
      go_upto_region 4 with fail
      go_wp2_with fail
      go_roundg (n - (i + 1))
      case measure => omega
      case rel => exact ⟨i + 1, by omega, by go_num, HO'.out, HB6.out⟩
    · obtain rfl : i = n := by omega
      have hltI : ¬ (i : Int) < (i : Int) := by omega
      rw [List.take_of_length_le (by simp [HN.out])] at hv
      obtain ⟨A6, c6, hvv⟩ := hv.form
      rw [List.length_map, HN.out] at hvv
      subst hvv
      have q1r := (hB.cell (p := ⟨g, 1, none⟩) hgW).trans q1
      have HV := Lib.hid hv
      have HB1 := Lib.hid hB
      obtain ⟨w2, hw2⟩ : ∃ w2, w2 = wr := ⟨_, rfl⟩
      subst hw2
      clear hv hB hBw
      go_upto_region 7 with fail
      have HB1w := Lib.hid (HB0.out.trans (HB1.out.mono HB0.out.size))
      clear q0 q1 hgW hal
      go_loopg [3, 7, 24] m (fun kk v _ s wr => ∃ k : Nat, k + kk = m ∧ s = .int .i64 (k : Int) ∧ Own64 w2.heap.size wr v ((outs.map (·.am)).take k) ∧ Below w2.heap.size w2 wr)
      case atStart => exact ⟨0, by omega, rfl, OwnW.nil _ _ _ _, Below.refl _ _⟩
      case round =>
        obtain ⟨k, hk, rfl, hv, hB⟩ := hrel
        by_cases hlt2 : k < m
        · have hltI : (k : Int) < (m : Int) := by omega
          have hil : k < outs.length := by rw [HM.out]; exact hlt2
          obtain ⟨g', off, rfl, hg', hat⟩ := HO.out.below (HB1w.out.trans (hB.mono HB1w.out.size)) k hil
          have hbdi := HBO.out _ (List.getElem_mem hil)
          have hIn := LDs_agg uOut iOut wr g' (off + k * 33) (outV outs[k]) (outV_len hbdi) hat
          have hSt := HSU.out wr (outV outs[k]) (outV_len hbdi) (outV_one _)
          have b5 := Blk.new wr 80 (outV outs[k]).toArray
          have B5 := hB.alloc hB.size (.cells (outV outs[k]).toArray 80)
          have hv5 := hv.alloc (.cells (outV outs[k]).toArray 80)
          have htk : (outs.map (·.am)).take (k + 1) = (outs.map (·.am)).take k ++ [outs[k].am] := by
            rw [List.take_succ_eq_append_getElem (by simpa using hil)]; simp
          have htl : ((outs.map (·.am)).take k).length = k := by simp; omega
          obtain ⟨W5, hW5⟩ : ∃ W5, wr.alloc (.cells (outV outs[k]).toArray 80) = W5 := ⟨_, rfl⟩
          rw [hW5] at hSt b5 B5 hv5
          have qa : W5.cell? ⟨wr.heap.size, 32, none⟩ = some (.int .u64 outs[k].am) := by rw [b5.cell 32]; exact outV_am hbdi
          obtain ⟨xs, hxs⟩ : ∃ xs, (outV outs[k]).toArray = xs := ⟨_, rfl⟩
          rw [hxs] at hIn hSt
          obtain ⟨v', w', hap, ho', hf', _⟩ := appW_one (ty := 78) uU64s iU64s (by omega) hv5 outs[k].am (by omega) B5.size
          obtain ⟨A6, c6, hvv⟩ := hv.form
          rw [htl] at hvv
          subst hvv
          rw [← htk] at ho'
          obtain ⟨A7, c7, rfl⟩ := ho'.form
          have hlv : ((outs.map (·.am)).take (k + 1)).length = k + 1 := by simp; omega
          rw [hlv] at hap ho'
          have HO' := Lib.hid ho'
          have HB6 := Lib.hid (B5.trans ((hv5.step hf' B5.size).mono (Nat.le_refl _)))
          clear ho' hf' hv5 hv hat hbdi b5 B5 htk htl hlv hxs hW5 hB
          go_upto_region 9 with fail
          go_wp2_with fail
          go_roundg (m - (k + 1))
          case measure => omega
          case rel => exact ⟨k + 1, by omega, by go_num, HO'.out, HB6.out⟩
        · obtain rfl : k = m := by omega
          have hltI : ¬ (k : Int) < (k : Int) := by omega
          rw [List.take_of_length_le (by simp [HM.out])] at hv
          have HV2 := Lib.hid hv
          have HB2 := Lib.hid hB
          clear hv hB
          go_wp2_with fail
          go_ret2
          exact ⟨_, _, rfl, (HV.out.below HB2.out (fun _ hk => (HV.out.lt hk).2)).base HB0.out.size, HV2.out.base HB1w.out.size, HB1w.out.trans (HB2.out.mono HB1w.out.size)⟩
end Go.Proofs.YtdkanehjahpehaaGreatDoor
end

section
namespace Go.Proofs.YtdkanehjahpehaaGreatDoor
open Go.RowKit Go.Shelf
set_option maxRecDepth 100000
attribute [local go_sem ↓] ap64_of

theorem cu_any (A : Option Addr) (c : Nat) (l : List Int) (x : Int) (w : World) (h : RdW .u64 w A l) (hl : l.length ≤ 1000000000) :
    Calls Tryz.prog 60 #[.slice A l.length c, .int .u64 x] w fun e w' => e = .returned (.bool (l.contains x)) ∧ w' = w := by
  rcases Nat.eq_zero_or_pos l.length with h0 | h0
  · obtain rfl : l = [] := List.length_eq_zero_iff.1 h0
    exact AnyE.slices_Contains_empty Tryz.laysCU A c (.int .u64 x) w
  · obtain ⟨g, off, rfl, hg, hc⟩ := h h0
    have := AnyE.slices_Contains Tryz.laysCU (Value.int .u64) (fun x y => x == y) (EqlAt.int _ _ .u64) g off l.length c l x w (Nat.le_refl _) (by omega) (fun j hj => hc j _ (by simp [getElem!_pos, hj]))
    rw [List.take_length] at this
    have e : (l.any fun y => x == y) = l.contains x := by
      rw [Bool.eq_iff_iff]
      simp
    rw [e] at this
    exact this

theorem U64.of {w : World} {A : Option Addr} {l : List Int} (h : RdW .u64 w A l) (hb : ∀ x ∈ l, 0 ≤ x ∧ x ≤ 18446744073709551615) : U64 w A l := ⟨h, hb⟩

set_option maxHeartbeats 4000000 in
theorem txcheck_any (A1 : Option Addr) (c1 : Nat) (A2 : Option Addr) (c2 : Nat) (t : TxD) (w : World) (h : TxAt w A1 A2 t) (hl : t.ins.length ≤ 1000000) (hl2 : t.outs.length ≤ 1000000) :
    Calls Tryz.prog 26 #[.agg (txV A1 c1 A2 c2 t)] w fun e w' => e = .returned (.int .i64 (checkP t)) ∧ Below w.heap.size w w' := by
  have b0 := Blk.new w 26 (txV A1 c1 A2 c2 t)
  have B0 : Below w.heap.size w (w.alloc (.cells (txV A1 c1 A2 c2 t) 26)) := (Below.refl _ w).alloc (Nat.le_refl _) _
  obtain ⟨W, hW⟩ : ∃ W, w.alloc (.cells (txV A1 c1 A2 c2 t) 26) = W := ⟨_, rfl⟩
  obtain ⟨g, hg⟩ : ∃ g, w.heap.size = g := ⟨_, rfl⟩
  rw [hW] at B0
  rw [hW, hg] at b0
  have hgW : g < W.heap.size := b0.lt
  have hT := h.below B0
  have hbox : ∀ X, Below W.heap.size W X → X.cell? ⟨g, 0, none⟩ = some (.slice A1 t.ins.length c1) ∧ X.cell? ⟨g, 1, none⟩ = some (.slice A2 t.outs.length c2) ∧ X.cell? ⟨g, 2, none⟩ = some (.int .u64 t.fee) ∧ X.cell? ⟨g, 3, none⟩ = some (.int .i64 t.exp) := fun X hX =>
    ⟨(hX.cell (p := ⟨g, 0, none⟩) hgW).trans (b0.cell 0), (hX.cell (p := ⟨g, 1, none⟩) hgW).trans (b0.cell 1), (hX.cell (p := ⟨g, 2, none⟩) hgW).trans (b0.cell 2), (hX.cell (p := ⟨g, 3, none⟩) hgW).trans (b0.cell 3)⟩
  obtain ⟨q0, q1, q2, q3⟩ := hbox W (Below.refl _ _)
  have ham := amounts_any A1 c1 A2 c2 t W hT hl hl2
  have hbi : ∀ x ∈ t.ins.map (·.am), 0 ≤ x ∧ x ≤ 18446744073709551615 := fun x hx => by
    obtain ⟨i, hi, rfl⟩ := List.mem_map.1 hx
    exact (h.bd.ins i hi).am
  have hbo : ∀ x ∈ t.outs.map (·.am), 0 ≤ x ∧ x ≤ 18446744073709551615 := fun x hx => by
    obtain ⟨i, hi, rfl⟩ := List.mem_map.1 hx
    exact (h.bd.outs i hi).am
  have hbf : ∀ x ∈ t.outs.map (·.am) ++ [t.fee], 0 ≤ x ∧ x ≤ 18446744073709551615 := fun x hx => by
    rcases List.mem_append.1 hx with h' | h'
    · exact hbo x h'
    · simp only [List.mem_singleton] at h'; subst h'; exact h.bd.fee
  have hl1I : (t.ins.map (·.am)).length ≤ 1000000 := by simpa using hl
  have hl2I : (t.outs.map (·.am)).length ≤ 1000000 := by simpa using hl2
  obtain ⟨R, hR⟩ : ∃ R, checkP t = R := ⟨_, rfl⟩
  rw [hR]
  unfold checkP sumsP zeroP at hR
  have HLI := Lib.hid hl1I
  have HLO := Lib.hid hl2I
  have HW := Lib.hid hW
  have HG := Lib.hid hg
  have HB0 := Lib.hid B0
  have HBOX := Lib.hid hbox
  have HT := Lib.hid hT
  have HAM := Lib.hid ham
  have HL := Lib.hid hl
  have HL2 := Lib.hid hl2
  have HBI := Lib.hid hbi
  have HBF := Lib.hid hbf
  have HR := Lib.hid hR
  clear hW hg B0 b0 h hbox hT ham hl hl2 hbi hbo hbf hR hl1I hl2I
  go_enter Tryz.func26, Tryz.ntmps26
  unfold txV at HW ⊢
  go_upto_region 1 with fail
  rw [HW.out, HG.out]
  have ham := HAM.out
  unfold txV at ham
  go_wp2_with fail
  with_reducible refine ham.mono ?_
  rintro e w1 ⟨v, u, rfl, hv, hu, hB1⟩
  obtain ⟨q0a, q1a, q2a, q3a⟩ := HBOX.out w1 hB1
  have hil := islong_any A1 c1 A2 c2 t w1 (HT.out.below hB1) (by have := HL.out; omega)
  unfold txV at hil
  have HV := Lib.hid hv
  have HU := Lib.hid hu
  have HB1 := Lib.hid hB1
  clear hv hu hB1 ham
  by_cases h1 : longP t = true
  · have hr := HR.out
    rw [if_pos h1] at hr
    subst hr
    rw [h1] at hil
    go_wp2_with fail
    with_reducible refine hil.mono ?_
    rintro e w2 ⟨rfl, hB2⟩
    have HB2 := Lib.hid (HB1.out.trans (hB2.mono HB1.out.size))
    clear hB2 hil
    go_wp2_with fail
    go_ret
    exact ⟨rfl, HB0.out.trans (HB2.out.mono HB0.out.size)⟩
  have h1f : longP t = false := by simpa using h1
  have hr := HR.out
  rw [if_neg h1] at hr
  rw [h1f] at hil
  go_wp2_with fail
  with_reducible refine hil.mono ?_
  rintro e w2 ⟨rfl, hB2⟩
  have hB2' := HB1.out.trans (hB2.mono HB1.out.size)
  obtain ⟨q0b, q1b, q2b, q3b⟩ := HBOX.out w2 hB2'
  have hv2 : Own64 W.heap.size w2 v (t.ins.map (·.am)) := HV.out.keep hB2
  have hu2 : Own64 W.heap.size w2 u (t.outs.map (·.am)) := HU.out.keep hB2
  have htw := istwice_any A1 c1 A2 c2 t w2 (HT.out.below hB2') HL.out
  unfold txV at htw
  have HB2 := Lib.hid hB2'
  have HV2 := Lib.hid hv2
  have HU2 := Lib.hid hu2
  clear hB2 hB2' hv2 hu2 hil HV HU
  by_cases h2 : twiceP t.ins = true
  · rw [if_pos h2] at hr
    subst hr
    rw [h2] at htw
    go_wp2_with fail
    with_reducible refine htw.mono ?_
    rintro e w3 ⟨rfl, hB3⟩
    have HB3 := Lib.hid (HB2.out.trans (hB3.mono HB2.out.size))
    clear hB3 htw
    go_wp2_with fail
    go_ret
    exact ⟨rfl, HB0.out.trans (HB3.out.mono HB0.out.size)⟩
  have h2f : twiceP t.ins = false := by simpa using h2
  rw [if_neg h2] at hr
  rw [h2f] at htw
  have HR2 := Lib.hid hr
  clear hr HR
  go_wp2_with fail
  with_reducible refine htw.mono ?_
  rintro e w3 ⟨rfl, hB3⟩
  have hB3' := HB2.out.trans (hB3.mono HB2.out.size)
  obtain ⟨q0c, q1c, q2c, q3c⟩ := HBOX.out w3 hB3'
  have hv3 : Own64 W.heap.size w3 v (t.ins.map (·.am)) := HV2.out.keep hB3
  have hu3 : Own64 W.heap.size w3 u (t.outs.map (·.am)) := HU2.out.keep hB3
  have HB3 := Lib.hid hB3'
  have HU3 := Lib.hid hu3
  obtain ⟨Av, cv, hvv, hrv, _⟩ := hv3.rd
  obtain ⟨Au, cu, huu, hru, _⟩ := hu3.rd
  subst hvv
  subst huu
  have c1x := cu_any Av cv (t.ins.map (·.am)) 0 w3 hrv (by have := HLI.out; omega)
  have c2x := cu_any Au cu (t.outs.map (·.am)) 0 w3 hru (by have := HLO.out; omega)
  have sa1 := sall_any Av cv (t.ins.map (·.am)) w3 (U64.of hrv HBI.out) (by have := HLI.out; omega)
  clear hB3 hB3' hv3 hu3 htw HV2 HU2 hrv hru
  obtain ⟨li, hli⟩ : ∃ li, t.ins.map (·.am) = li := ⟨_, rfl⟩
  obtain ⟨lo, hlo⟩ : ∃ lo, t.outs.map (·.am) = lo := ⟨_, rfl⟩
  rw [hli] at c1x sa1 HR2 HLI HBI
  rw [hlo] at c2x HR2 HLO HBF HU3
  rw [hli, hlo]
  clear hli hlo
  by_cases h3 : li.contains 0 = true
  · have hr := HR2.out
    rw [if_pos (by rw [h3]; rfl)] at hr
    subst hr
    rw [h3] at c1x
    clear h3
    go_wp2_with fail
    with_reducible refine c1x.mono ?_
    rintro e w4 ⟨rfl, rfl⟩
    go_wp2_with fail
    go_ret
    exact ⟨rfl, HB0.out.trans (HB3.out.mono HB0.out.size)⟩
  have h3f : li.contains 0 = false := by simpa using h3
  by_cases h4 : lo.contains 0 = true
  · have hr := HR2.out
    rw [if_pos (by rw [h3f, h4]; rfl)] at hr
    subst hr
    rw [h3f] at c1x
    rw [h4] at c2x
    clear h3 h4 h3f
    go_wp2_with fail
    with_reducible refine c1x.mono ?_
    rintro e w4 ⟨rfl, rfl⟩
    go_wp2_with fail
    with_reducible refine c2x.mono ?_
    rintro e w4 ⟨rfl, rfl⟩
    go_wp2_with fail
    go_ret
    exact ⟨rfl, HB0.out.trans (HB3.out.mono HB0.out.size)⟩
  have h4f : lo.contains 0 = false := by simpa using h4
  have hr := HR2.out
  rw [if_neg (by rw [h3f, h4f]; simp)] at hr
  rw [h3f] at c1x
  rw [h4f] at c2x
  clear h3 h4 h3f h4f HR2
  go_wp2_with fail
  with_reducible refine c1x.mono ?_
  rintro e w4 ⟨rfl, rfl⟩
  go_wp2_with fail
  with_reducible refine c2x.mono ?_
  rintro e w4 ⟨rfl, rfl⟩
  clear c1x c2x
  have hae := allQ_e li 0
  obtain ⟨P1, hP1⟩ : ∃ P1, allQ 0 li = P1 := ⟨_, rfl⟩
  rw [hP1] at sa1 hr hae
  obtain ⟨a1, e1⟩ := P1
  simp only at sa1 hr hae
  clear hP1
  have HR3 := Lib.hid hr
  have SA1 := Lib.hid sa1
  clear hr sa1
  rcases hae with rfl | rfl
  · have hr := HR3.out
    rw [if_neg (by omega)] at hr
    have HR4 := Lib.hid hr
    clear hr
    go_wp2_with fail
    with_reducible refine SA1.out.mono ?_
    rintro e w5 ⟨rfl, hB5⟩
    have hB5' := HB3.out.trans (hB5.mono HB3.out.size)
    obtain ⟨q0d, q1d, q2d, q3d⟩ := HBOX.out w5 hB5'
    have hu5 := HU3.out.keep hB5
    obtain ⟨v', w6, hap, ho', hf', _⟩ := appW_one (ty := 78) uU64s iU64s (by omega) hu5 t.fee (by have := HLO.out; omega) hB5'.size
    have hB6 := hB5'.trans ((hu5.step hf' hB5'.size).mono (Nat.le_refl _))
    obtain ⟨A7, c7, hv7, hr7, _⟩ := ho'.rd
    subst hv7
    have sa2 := sall_any A7 c7 (lo ++ [t.fee]) w6 (U64.of hr7 HBF.out) (by have := HLO.out; simp; omega)
    obtain ⟨k7, hk7⟩ : ∃ k7, (lo ++ [t.fee]).length = k7 := ⟨_, rfl⟩
    rw [hk7] at sa2 hap
    have hbe := allQ_e (lo ++ [t.fee]) 0
    obtain ⟨P2, hP2⟩ : ∃ P2, allQ 0 (lo ++ [t.fee]) = P2 := ⟨_, rfl⟩
    rw [hP2] at sa2 hbe HR4
    obtain ⟨a2, e2⟩ := P2
    simp only at sa2 HR4 hbe
    have HB6 := Lib.hid hB6
    have SA2 := Lib.hid sa2
    clear hB5 hB5' hu5 ho' hf' hB6 hr7 sa2 hk7 hP2 HU3
    rcases hbe with rfl | rfl
    · have hr := HR4.out
      rw [if_neg (by omega)] at hr
      by_cases hab : a1 = a2
      · subst hab
        rw [if_neg (by simp)] at hr
        subst hr
        go_wp2_with fail
        with_reducible refine SA2.out.mono ?_
        rintro e w7 ⟨rfl, hB7⟩
        have HB7 := Lib.hid (HB6.out.trans (hB7.mono HB6.out.size))
        clear hB7
        go_wp2_with fail
        go_ret
        exact ⟨rfl, HB0.out.trans (HB7.out.mono HB0.out.size)⟩
      · rw [if_pos hab] at hr
        subst hr
        go_wp2_with fail
        with_reducible refine SA2.out.mono ?_
        rintro e w7 ⟨rfl, hB7⟩
        have HB7 := Lib.hid (HB6.out.trans (hB7.mono HB6.out.size))
        clear hB7
        go_wp2_with fail
        go_ret
        exact ⟨rfl, HB0.out.trans (HB7.out.mono HB0.out.size)⟩
    · have hr := HR4.out
      rw [if_pos (by omega)] at hr
      subst hr
      go_wp2_with fail
      with_reducible refine SA2.out.mono ?_
      rintro e w7 ⟨rfl, hB7⟩
      have HB7 := Lib.hid (HB6.out.trans (hB7.mono HB6.out.size))
      clear hB7
      go_wp2_with fail
      go_ret
      exact ⟨rfl, HB0.out.trans (HB7.out.mono HB0.out.size)⟩
  · have hr := HR3.out
    rw [if_pos (by omega)] at hr
    subst hr
    go_wp2_with fail
    with_reducible refine SA1.out.mono ?_
    rintro e w5 ⟨rfl, hB5⟩
    have HB5 := Lib.hid (HB3.out.trans (hB5.mono HB3.out.size))
    clear hB5
    go_wp2_with fail
    go_ret
    exact ⟨rfl, HB0.out.trans (HB5.out.mono HB0.out.size)⟩
end Go.Proofs.YtdkanehjahpehaaGreatDoor
end
