/-
  A transaction in the world; tx.within, tx.isLong.
-/
import Derived.Test.YtmflhidmhefljaaDoorEach
import Derived.Test.YtmflhidmhefljaaDoorShelf
namespace Go.Proofs.YtmflhidmhefljaaDoor
open Go.RowKit Go.Shelf
set_option maxRecDepth 100000

/-- An input's cells. -/
def inV (i : InD) (A : Option Addr) (c : Nat) : List Value := ptL i.tx i.ix ++ [.int .u64 i.am, .slice A i.sec.length c]
theorem inV_len {i : InD} (h : i.Bd) (A : Option Addr) (c : Nat) : (inV i A c).length = 35 := by
  simp [inV, ptL_len h.len]
theorem ptL_one (tx : List Int) (ix : Int) : ∀ v ∈ ptL tx ix, v.oneCell' = true := by
  intro v hv
  rcases List.mem_append.1 hv with h | h
  · exact bys_one _ v h
  · simp only [List.mem_singleton] at h; subst h; rfl
theorem inV_one (i : InD) (A : Option Addr) (c : Nat) : ∀ v ∈ inV i A c, v.oneCell' = true := by
  intro v hv
  rcases List.mem_append.1 hv with h | h
  · exact ptL_one _ _ v h
  · simp only [List.mem_cons, List.not_mem_nil, or_false] at h
    rcases h with rfl | rfl <;> rfl
/-- An output's cells. -/
def outV (o : OutD) : List Value := bys o.ow ++ [.int .u64 o.am]
theorem outV_len {o : OutD} (h : o.Bd) : (outV o).length = 33 := by simp [outV, bys_length, h.len]
theorem outV_one (o : OutD) : ∀ v ∈ outV o, v.oneCell' = true := by
  intro v hv
  rcases List.mem_append.1 hv with h | h
  · exact bys_one _ v h
  · simp only [List.mem_singleton] at h; subst h; rfl

/-- At g, o lies an input. -/
structure InAt (w : World) (g o : Nat) (A : Option Addr) (c : Nat) (i : InD) : Prop where
  cell : ∀ j x, (inV i A c)[j]? = some x → w.cell? ⟨g, o + j, none⟩ = some x
  sec : Byt w A i.sec
  cap : i.sec.length ≤ c
  nul : A = none → c = 0
  max : i.sec.length ≤ maxLen
/-- From A on lie these inputs. -/
def InsAt (w : World) (A : Option Addr) (l : List InD) : Prop := ∀ j (h : j < l.length), ∃ g off B c, A = some ⟨g, off, none⟩ ∧ g < w.heap.size ∧ InAt w g (off + j * 35) B c l[j]
/-- From A on lie these outputs. -/
def OutsAt (w : World) (A : Option Addr) (l : List OutD) : Prop := ∀ j (h : j < l.length), ∃ g off, A = some ⟨g, off, none⟩ ∧ g < w.heap.size ∧ ∀ k x, (outV l[j])[k]? = some x → w.cell? ⟨g, off + j * 33 + k, none⟩ = some x
theorem InAt.below {w w' : World} {g o : Nat} {A : Option Addr} {c : Nat} {i : InD} (h : InAt w g o A c i) (hg : g < w.heap.size) (hb : Below w.heap.size w w') : InAt w' g o A c i :=
  ⟨fun j x hx => (hb.cell (p := ⟨g, o + j, none⟩) hg).trans (h.cell j x hx), h.sec.below hb, h.cap, h.nul, h.max⟩
theorem InsAt.below {w w' : World} {A : Option Addr} {l : List InD} (h : InsAt w A l) (hb : Below w.heap.size w w') : InsAt w' A l := fun j hj => by
  obtain ⟨g, off, B, c, e, hg, hi⟩ := h j hj
  exact ⟨g, off, B, c, e, Nat.lt_of_lt_of_le hg hb.size, hi.below hg hb⟩
theorem OutsAt.below {w w' : World} {A : Option Addr} {l : List OutD} (h : OutsAt w A l) (hb : Below w.heap.size w w') : OutsAt w' A l := fun j hj => by
  obtain ⟨g, off, e, hg, hi⟩ := h j hj
  exact ⟨g, off, e, Nat.lt_of_lt_of_le hg hb.size, fun k x hx => (hb.cell (p := ⟨g, off + j * 33 + k, none⟩) hg).trans (hi k x hx)⟩

/-- A transaction's value. -/
def txV (A1 : Option Addr) (c1 : Nat) (A2 : Option Addr) (c2 : Nat) (t : TxD) : Array Value := #[.slice A1 t.ins.length c1, .slice A2 t.outs.length c2, .int .u64 t.fee, .int .i64 t.exp]
/-- .. in the world. -/
structure TxAt (w : World) (A1 A2 : Option Addr) (t : TxD) : Prop where
  ins : InsAt w A1 t.ins
  outs : OutsAt w A2 t.outs
  bd : t.Bd
theorem TxAt.below {w w' : World} {A1 A2 : Option Addr} {t : TxD} (h : TxAt w A1 A2 t) (hb : Below w.heap.size w w') : TxAt w' A1 A2 t := ⟨h.ins.below hb, h.outs.below hb, h.bd⟩

/-! ### Loads and stores of inputs, outputs, points, digests: kept shut -/
theorem ldIn_of (v : Value) : Instr.loadAt 57 v = LDs 57 v := rfl
theorem stIn_of (v x : Value) : Instr.storeAt 57 v x = STs 57 v x := rfl
theorem alIn_of : Instr.alloc 57 true (.tuple #[]) = ALs 57 := rfl
theorem ldOut_of (v : Value) : Instr.loadAt 59 v = LDs 59 v := rfl
theorem stOut_of (v x : Value) : Instr.storeAt 59 v x = STs 59 v x := rfl
theorem alOut_of : Instr.alloc 59 true (.tuple #[]) = ALs 59 := rfl
theorem ldPt_of (v : Value) : Instr.loadAt 25 v = LDs 25 v := rfl
theorem uIn : (Tryd.prog.underlying 57).map isAggD = some true := by kernel_rfl
theorem iIn : (Tryd.prog.info? 57).map (·.size) = some 35 := by kernel_rfl
theorem zIn : (((Tryd.prog.info? 57).bind (·.zero)).map (·.cells.size)) = some 35 := by kernel_rfl
theorem uOut : (Tryd.prog.underlying 59).map isAggD = some true := by kernel_rfl
theorem iOut : (Tryd.prog.info? 59).map (·.size) = some 33 := by kernel_rfl
theorem zOut : (((Tryd.prog.info? 59).bind (·.zero)).map (·.cells.size)) = some 33 := by kernel_rfl
theorem uPt : (Tryd.prog.underlying 25).map isAggD = some true := by kernel_rfl
theorem iPt : (Tryd.prog.info? 25).map (·.size) = some 33 := by kernel_rfl

/-- A load of an aggregate of n cells. -/
theorem LDs_agg {P : Program} {t : TypeId} {n : Nat} (hu : (P.underlying t).map isAggD = some true) (hi : (P.info? t).map (·.size) = some n) (w : World) (g off : Nat) (xs : List Value) (hl : xs.length = n)
    (hc : ∀ j v, xs[j]? = some v → w.cell? ⟨g, off + j, none⟩ = some v) : (LDs t (.pointer (some ⟨g, off, none⟩))).run P w = .ok (.agg xs.toArray) w := by
  obtain ⟨d, h1, h2⟩ := Option.map_eq_some_iff.1 hu
  exact LDs_part w t d n h1 h2 hi g off xs hl hc
theorem LDs_aggB {P : Program} {t : TypeId} {n : Nat} (hu : (P.underlying t).map isAggD = some true) (hi : (P.info? t).map (·.size) = some n) {w : World} {g off : Nat} {e : TypeId} {cs : Array Value} (hb : Blk w g e cs) (xs : List Value) (hl : xs.length = n)
    (hx : (cs.toList.drop off).take n = xs) : (LDs t (.pointer (some ⟨g, off, none⟩))).run P w = .ok (.agg xs.toArray) w := by
  obtain ⟨d, h1, h2⟩ := Option.map_eq_some_iff.1 hu
  exact LDs_blk h1 h2 hi hb xs hl hx

/-- A new variable of an aggregate type, and a store of it: it holds what was stored. -/
theorem alst {P : Program} {t : TypeId} {n : Nat} (hi : (P.info? t).map (·.size) = some n) (hz : (((P.info? t).bind (·.zero)).map (·.cells.size)) = some n) :
    ∃ Z : Array Value, (∀ W : World, (ALs t).run P W = .ok (.pointer (some ⟨W.heap.size, 0, none⟩)) (W.alloc (.cells Z t))) ∧
      ∀ (W : World) (xs : List Value), xs.length = n → (∀ v ∈ xs, v.oneCell' = true) → (STs t (.pointer (some ⟨W.heap.size, 0, none⟩)) (.agg xs.toArray)).run P (W.alloc (.cells Z t)) = .ok () (W.alloc (.cells xs.toArray t)) := by
  obtain ⟨z, h1, h2⟩ := Option.map_eq_some_iff.1 hz
  exact ⟨z.cells, fun W => ALs_new z h1 W, fun W xs hl h1 => STs_new hi W _ h2 xs hl h1⟩

/-! ### tx.within, tx.isLong -/
theorem within_any (n lo hi : Int) (w : World) : Calls Tryd.prog 60 #[.int .i64 n, .int .i64 lo, .int .i64 hi] w fun e w' => e = .returned (.bool (decide (lo ≤ n ∧ n ≤ hi))) ∧ w' = w := by
  by_cases h1 : lo ≤ n
  · by_cases h2 : n ≤ hi
    · have hd : decide (lo ≤ n ∧ n ≤ hi) = true := by simp [h1, h2]
      rw [hd]
      clear hd
      go_enter Tryd.func60, Tryd.ntmps60
      go_wp2_with fail
      go_ret
      exact ⟨rfl, rfl⟩
    · have hd : decide (lo ≤ n ∧ n ≤ hi) = false := by simp [h2]
      rw [hd]
      clear hd
      go_enter Tryd.func60, Tryd.ntmps60
      go_wp2_with fail
      go_ret
      exact ⟨rfl, rfl⟩
  · have hd : decide (lo ≤ n ∧ n ≤ hi) = false := by simp [h1]
    rw [hd]
    clear hd
    go_enter Tryd.func60, Tryd.ntmps60
    go_wp2_with fail
    go_ret
    exact ⟨rfl, rfl⟩

theorem long1_any (i : InD) (hb : i.Bd) (A : Option Addr) (c : Nat) (w : World) :
    Calls Tryd.prog 62 #[.agg (inV i A c).toArray] w fun e w' => e = .returned (.bool (inLongP i)) ∧ Below w.heap.size w w' := by
  have b0 := Blk.new w 57 (inV i A c).toArray
  have B0 : Below w.heap.size w (w.alloc (.cells (inV i A c).toArray 57)) := (Below.refl _ w).alloc (Nat.le_refl _) _
  obtain ⟨W, hW⟩ : ∃ W, w.alloc (.cells (inV i A c).toArray 57) = W := ⟨_, rfl⟩
  obtain ⟨g, hg⟩ : ∃ g, w.heap.size = g := ⟨_, rfl⟩
  rw [hW, hg] at b0
  rw [hW] at B0
  have q32 : W.cell? ⟨g, 32, none⟩ = some (.int .i64 i.ix) := by
    rw [b0.cell 32]; simp [inV, ptL, bys_length, hb.len]
  have q34 : W.cell? ⟨g, 34, none⟩ = some (.slice A i.sec.length c) := by
    rw [b0.cell 34]; simp [inV, ptL, bys_length, hb.len]
  have wi := within_any i.ix 0 15 W
  have HW := Lib.hid hW
  have HG := Lib.hid hg
  have HB := Lib.hid B0
  unfold inLongP
  clear hW hg B0 b0 hb
  obtain ⟨n, hn⟩ : ∃ n, i.sec.length = n := ⟨_, rfl⟩
  rw [hn] at q34 ⊢
  clear hn
  by_cases h : 64 < n
  · have hI : (64 : Int) < (n : Int) := by omega
    have hd : decide (64 < n) = true := by simp [h]
    rw [hd, Bool.true_or]
    clear hd
    go_enter Tryd.func62, Tryd.ntmps62
    go_upto_region 1 with fail
    rw [HW.out, HG.out]
    go_wp2_with fail
    go_ret
    exact ⟨rfl, HB.out⟩
  · have hI : ¬ (64 : Int) < (n : Int) := by omega
    have hd : decide (64 < n) = false := by simp [h]
    rw [hd, Bool.false_or]
    obtain ⟨R, hR⟩ : ∃ R, decide ((0 : Int) ≤ i.ix ∧ i.ix ≤ 15) = R := ⟨_, rfl⟩
    rw [hR] at wi ⊢
    clear hd hR
    go_enter Tryd.func62, Tryd.ntmps62
    go_upto_region 1 with fail
    rw [HW.out, HG.out]
    go_wp2_with fail
    with_reducible refine wi.mono ?_
    rintro e w' ⟨rfl, rfl⟩
    go_wp2_with fail
    go_ret
    exact ⟨rfl, HB.out⟩

/-- An input with its secret's slice. -/
structure InW where
  i : InD
  bd : i.Bd
  A : Option Addr
  c : Nat
instance : Inhabited InW := ⟨⟨⟨List.replicate 32 0, 0, 0, []⟩, ⟨by simp, by intro x hx; have := List.eq_of_mem_replicate hx; omega, by simp, by simp, by simp⟩, none, 0⟩⟩
theorem InsAt.rows {w : World} {A : Option Addr} {l : List InD} (h : InsAt w A l) (hb : ∀ i ∈ l, i.Bd) (h0 : 0 < l.length) :
    ∃ g off, A = some ⟨g, off, none⟩ ∧ g < w.heap.size ∧ ∃ zs : List InW, zs.map (·.i) = l ∧ ∀ j, j < zs.length → ∀ k v, (inV zs[j]!.i zs[j]!.A zs[j]!.c)[k]? = some v → w.cell? ⟨g, off + j * 35 + k, none⟩ = some v := by
  obtain ⟨g, off, _, _, rfl, hg, _⟩ := h 0 h0
  refine ⟨g, off, rfl, hg, ?_⟩
  have each : ∀ j : Nat, ∃ z : InW, ∀ hj : j < l.length, z.i = l[j] ∧ ∀ k v, (inV z.i z.A z.c)[k]? = some v → w.cell? ⟨g, off + j * 35 + k, none⟩ = some v := by
    intro j
    by_cases hj : j < l.length
    · obtain ⟨g', off', B, c, e, _, hi⟩ := h j hj
      cases e
      exact ⟨⟨l[j], hb _ (List.getElem_mem hj), B, c⟩, fun _ => ⟨rfl, fun k v hv => hi.cell k v hv⟩⟩
    · exact ⟨default, fun h' => absurd h' hj⟩
  obtain ⟨f, hf⟩ := Classical.skolem.1 each
  refine ⟨(List.range l.length).map f, ?_, fun j hj k v hv => ?_⟩
  · apply List.ext_getElem
    · simp
    · intro j h1 h2
      simpa using (hf j h2).1
  · have hj' : j < l.length := by simpa using hj
    have e : ((List.range l.length).map f)[j]! = f j := by simp [getElem!_pos, hj']
    rw [e] at hv
    exact (hf j hj').2 k v hv

theorem aIn (w : World) : (isAgg 57).run Tryd.prog w = .ok true w := by kernel_rfl
theorem sIn (w : World) : (Go.sizeOf 57).run Tryd.prog w = .ok 35 w := by kernel_rfl
theorem cf_any (A : Option Addr) (c : Nat) (l : List InD) (hb : ∀ i ∈ l, i.Bd) (w : World) (h : InsAt w A l) (h0 : 0 < l.length) (hl : l.length ≤ 1000000000) :
    Calls Tryd.prog 61 #[.slice A l.length c, .func (.func 62) #[] #[]] w fun e w' => e = .returned (.bool (l.any inLongP)) ∧ Below w.heap.size w w' := by
  obtain ⟨g, off, rfl, hg, zs, rfl, hc⟩ := h.rows hb h0
  have hz : (zs.map (·.i)).length = zs.length := by simp
  rw [hz] at hl ⊢
  have := AnyQ.slices_ContainsFunc Tryd.laysCF 35 aIn sIn (fun z : InW => inV z.i z.A z.c) (fun z => inV_len z.bd z.A z.c) (fun z => inLongP z.i) 62 #[]
    (enters_of Tryd.func62 (by kernel_rfl) rfl) g off zs.length c zs w
    (fun W x hB => (long1_any x.i x.bd x.A x.c W).mono (fun e w' hh => ⟨hh.1, hB.trans (hh.2.mono hB.size)⟩)) (Nat.le_refl _) (by omega) hg hc
  rw [List.take_length] at this
  rw [List.any_map]
  exact this

set_option maxHeartbeats 2000000 in
theorem islong_any (A1 : Option Addr) (c1 : Nat) (A2 : Option Addr) (c2 : Nat) (t : TxD) (w : World) (h : TxAt w A1 A2 t) (hl : t.ins.length ≤ 1000000000) :
    Calls Tryd.prog 48 #[.agg (txV A1 c1 A2 c2 t)] w fun e w' => e = .returned (.bool (longP t)) ∧ Below w.heap.size w w' := by
  obtain ⟨ins, outs, fee, exp⟩ := t
  have b0 := Blk.new w 35 (txV A1 c1 A2 c2 ⟨ins, outs, fee, exp⟩)
  have B0 : Below w.heap.size w (w.alloc (.cells (txV A1 c1 A2 c2 ⟨ins, outs, fee, exp⟩) 35)) := (Below.refl _ w).alloc (Nat.le_refl _) _
  have hcf := fun h0 : 0 < ins.length => cf_any A1 c1 ins h.bd.ins _ (h.ins.below B0) h0 hl
  obtain ⟨W, hW⟩ : ∃ W, w.alloc (.cells (txV A1 c1 A2 c2 ⟨ins, outs, fee, exp⟩) 35) = W := ⟨_, rfl⟩
  obtain ⟨g, hg⟩ : ∃ g, w.heap.size = g := ⟨_, rfl⟩
  rw [hW] at hcf
  rw [hW, hg] at b0
  rw [hW] at B0
  have q0 : W.cell? ⟨g, 0, none⟩ = some (.slice A1 ins.length c1) := b0.cell 0
  have q1 : W.cell? ⟨g, 1, none⟩ = some (.slice A2 outs.length c2) := b0.cell 1
  have q3 : W.cell? ⟨g, 3, none⟩ = some (.int .i64 exp) := b0.cell 3
  have w1 := within_any (ins.length : Int) 1 16 W
  have w2 := within_any (outs.length : Int) 1 16 W
  have w3 := within_any exp 0 1099511627776 W
  unfold txV at hW ⊢
  unfold longP
  simp only at hW ⊢
  have HW := Lib.hid hW
  have HG := Lib.hid hg
  have HB := Lib.hid B0
  clear hW hg B0 b0 h hl
  have e1 : decide ((1 : Int) ≤ (ins.length : Int) ∧ (ins.length : Int) ≤ 16) = decide (1 ≤ ins.length ∧ ins.length ≤ 16) := by rw [decide_eq_decide]; omega
  have e2 : decide ((1 : Int) ≤ (outs.length : Int) ∧ (outs.length : Int) ≤ 16) = decide (1 ≤ outs.length ∧ outs.length ≤ 16) := by rw [decide_eq_decide]; omega
  rw [e1] at w1
  rw [e2] at w2
  clear e1 e2
  by_cases d1 : 1 ≤ ins.length ∧ ins.length ≤ 16
  · have hcf := hcf (by omega)
    have x1 : decide (1 ≤ ins.length ∧ ins.length ≤ 16) = true := by simpa using d1
    rw [x1] at w1 ⊢
    clear x1 d1
    obtain ⟨R, hR⟩ : ∃ R, ins.any inLongP = R := ⟨_, rfl⟩
    rw [hR] at hcf ⊢
    clear hR
    obtain ⟨n1, hn1⟩ : ∃ n, ins.length = n := ⟨_, rfl⟩
    rw [hn1] at hcf q0 w1 HW ⊢
    clear hn1
    by_cases d2 : 1 ≤ outs.length ∧ outs.length ≤ 16
    · have x1 : decide (1 ≤ outs.length ∧ outs.length ≤ 16) = true := by simpa using d2
      rw [x1] at w2 ⊢
      clear x1 d2
      obtain ⟨n2, hn2⟩ : ∃ n, outs.length = n := ⟨_, rfl⟩
      rw [hn2] at q1 w2 HW ⊢
      clear hn2
      by_cases d3 : 0 ≤ exp ∧ exp ≤ 1099511627776
      · have x1 : decide (0 ≤ exp ∧ exp ≤ 1099511627776) = true := by simpa using d3
        rw [x1] at w3 ⊢
        clear x1 d3
        rw [show (!true || (!true || (!true || R))) = R from rfl]
        go_enter Tryd.func48, Tryd.ntmps48
        go_upto_region 1 with fail
        rw [HW.out, HG.out]
        go_wp2_with fail
        with_reducible refine w1.mono ?_
        rintro e w' ⟨rfl, rfl⟩
        go_wp2_with fail
        with_reducible refine w2.mono ?_
        rintro e w' ⟨rfl, rfl⟩
        go_wp2_with fail
        with_reducible refine w3.mono ?_
        rintro e w' ⟨rfl, rfl⟩
        go_wp2_with fail
        with_reducible refine hcf.mono ?_
        rintro e w' ⟨rfl, hb⟩
        have HB2 := Lib.hid (HB.out.trans (hb.mono HB.out.size))
        clear hb
        go_wp2_with fail
        go_ret
        exact ⟨rfl, HB2.out⟩
      · have x1 : decide (0 ≤ exp ∧ exp ≤ 1099511627776) = false := by simpa using d3
        rw [x1] at w3 ⊢
        clear x1 d3
        rw [show (!true || (!true || (!false || R))) = true from rfl]
        go_enter Tryd.func48, Tryd.ntmps48
        go_upto_region 1 with fail
        rw [HW.out, HG.out]
        go_wp2_with fail
        with_reducible refine w1.mono ?_
        rintro e w' ⟨rfl, rfl⟩
        go_wp2_with fail
        with_reducible refine w2.mono ?_
        rintro e w' ⟨rfl, rfl⟩
        go_wp2_with fail
        with_reducible refine w3.mono ?_
        rintro e w' ⟨rfl, rfl⟩
        go_wp2_with fail
        go_ret
        exact ⟨rfl, HB.out⟩
    · have x1 : decide (1 ≤ outs.length ∧ outs.length ≤ 16) = false := by simpa using d2
      rw [x1] at w2 ⊢
      clear x1 d2
      obtain ⟨n2, hn2⟩ : ∃ n, outs.length = n := ⟨_, rfl⟩
      rw [hn2] at q1 w2 HW ⊢
      clear hn2
      rw [show ∀ x : Bool, (!true || (!false || x)) = true from fun _ => rfl]
      go_enter Tryd.func48, Tryd.ntmps48
      go_upto_region 1 with fail
      rw [HW.out, HG.out]
      go_wp2_with fail
      with_reducible refine w1.mono ?_
      rintro e w' ⟨rfl, rfl⟩
      go_wp2_with fail
      with_reducible refine w2.mono ?_
      rintro e w' ⟨rfl, rfl⟩
      go_wp2_with fail
      go_ret
      exact ⟨rfl, HB.out⟩
  · have x1 : decide (1 ≤ ins.length ∧ ins.length ≤ 16) = false := by simpa using d1
    rw [x1] at w1 ⊢
    clear x1 d1 hcf
    obtain ⟨n1, hn1⟩ : ∃ n, ins.length = n := ⟨_, rfl⟩
    rw [hn1] at q0 w1 HW
    rw [hn1]
    clear hn1
    rw [show ∀ x : Bool, (!false || x) = true from fun _ => rfl]
    go_enter Tryd.func48, Tryd.ntmps48
    go_upto_region 1 with fail
    rw [HW.out, HG.out]
    go_wp2_with fail
    with_reducible refine w1.mono ?_
    rintro e w' ⟨rfl, rfl⟩
    go_wp2_with fail
    go_ret
    exact ⟨rfl, HB.out⟩
end Go.Proofs.YtmflhidmhefljaaDoor
