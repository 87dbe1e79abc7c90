/-
  seisinlaw28's example: a transaction with inputs at two shards of two (plain; the digests by the kernel).
  A driver's tasks, as ticks go by (plain).
  slices.Grow of nothing, slices.Concat: of pointers to tasks.
  A driver and its tasks in the world.
  driver.Driver: Out, Outcome, Ended (of one that is pending), turn.
  driver.Driver: send.
-/
import Derived.Test.YtdkanehjahpehaaGreatDoorJTxP
import Derived.Test.YtdkanehjahpehaaGreatDoorJOwnR
import Derived.Test.YtdkanehjahpehaaGreatDoorJTxA
import Derived.Lib.AppendZeros
import Derived.Lib.AppendZerosOnto
import Derived.Laws.AppendOwnNone
import Derived.Test.YtdkanehjahpehaaGreatDoorJCmd

section
namespace Go.Proofs.YtdkanehjahpehaaGreatDoor
set_option maxRecDepth 100000

/-- A digest of one byte and zeros. -/
def idB (b : Int) : List Int := b :: List.replicate 31 0
def inB (b : Int) : InD := ⟨idB b, 0, 3, []⟩
/-- The transaction. -/
def twoT : TxD := ⟨[inB 0, inB 4], [⟨List.replicate 32 0, 6⟩], 0, 9⟩
theorem two_at : ofO (idB 0) 0 2 = 0 ∧ ofO (idB 1) 0 2 = 0 ∧ ofO (idB 2) 0 2 = 0 ∧ ofO (idB 3) 0 2 = 0 ∧ ofO (idB 4) 0 2 = 1 := by decide +kernel
theorem two_check : checkP twoT = 0 := by decide +kernel
theorem two_ins : insP twoT 2 = [0, 1] := by decide +kernel
theorem two_each : eachP (insP twoT 2) = [0, 1] := by rw [two_ins]; decide
theorem idB_len (b : Int) : (idB b).length = 32 := rfl
theorem idB_bd {b : Int} (h : 0 ≤ b ∧ b ≤ 255) : ∀ x ∈ idB b, 0 ≤ x ∧ x ≤ 255 := by
  intro x hx
  rcases List.mem_cons.1 hx with rfl | hx
  · exact h
  · obtain ⟨_, rfl⟩ := List.mem_replicate.1 hx
    omega
theorem inB_bd {b : Int} (h : 0 ≤ b ∧ b ≤ 255) : (inB b).Bd := ⟨rfl, idB_bd h, by simp [inB], by simp [inB], by simp [inB]⟩
theorem two_bd : twoT.Bd := by
  refine ⟨fun i hi => ?_, fun o ho => ?_, by simp [twoT], by simp [twoT]⟩
  · simp only [twoT, List.mem_cons, List.not_mem_nil, or_false] at hi
    rcases hi with rfl | rfl
    · exact inB_bd (by omega)
    · exact inB_bd (by omega)
  · simp only [twoT, List.mem_cons, List.not_mem_nil, or_false] at ho
    subst ho
    refine ⟨by simp, fun x hx => ?_, by simp⟩
    have := (List.mem_replicate.1 hx).2
    omega
end Go.Proofs.YtdkanehjahpehaaGreatDoor
end

section
namespace Go.Proofs.YtdkanehjahpehaaGreatDoor
set_option maxRecDepth 100000

/-- What changes of a task: its replica, its count, whether the replica was told. -/
structure TkD where
  r : Nat
  c : Int
  ch : Bool
/-- A tick: the task; the replica that is asked, if one is. -/
def TkD.tick (k : Nat) (x : TkD) : TkD :=
  if 0 < x.c - 1 then ⟨x.r, x.c - 1, x.ch⟩ else ⟨if x.ch = true then x.r else (x.r + 1) % k, 12, false⟩
def TkD.asks (x : TkD) : Bool := decide (x.c - 1 ≤ 0)
/-- Both after i ticks. -/
def tkAt (k i : Nat) : TkD := ⟨i / 12 % k, ((12 - i % 12 : Nat) : Int), false⟩
theorem tkAt_zero (k : Nat) (_hk : 0 < k) : tkAt k 0 = ⟨0, 12, false⟩ := by
  unfold tkAt
  simp
theorem tkAt_tick (k i : Nat) : (tkAt k i).tick k = tkAt k (i + 1) := by
  unfold tkAt TkD.tick
  simp only [Bool.false_eq_true, if_false]
  by_cases h : (i + 1) % 12 = 0
  · rw [if_neg (by omega)]
    have h1 : (i + 1) / 12 = i / 12 + 1 := by omega
    rw [h1, Nat.mod_add_mod, h]
    rfl
  · rw [if_pos (by omega)]
    have h1 : (i + 1) / 12 = i / 12 := by omega
    rw [h1]
    congr 1
    omega
theorem tkAt_asks (k i : Nat) : (tkAt k i).asks = decide ((i + 1) % 12 = 0) := by
  unfold tkAt TkD.asks
  simp only [decide_eq_decide]
  omega
theorem tkAt_r (k i : Nat) (_h : (i + 1) % 12 = 0) : ((tkAt k i).tick k).r = (i + 1) / 12 % k := by rw [tkAt_tick]; rfl
/-- The requests of a tick: of each task that asks: the shard, the replica, the client, the number. -/
def asksQ (k : Nat) (cl : Int) (xs : Nat → TkD) (i : Nat) : List (Int × Int × Int × Int) :=
  if (xs i).asks = true then [((i : Int), (((xs i).tick k).r : Int), cl, (i : Int) + 1)] else []
def asksTo (k : Nat) (cl : Int) (xs : Nat → TkD) : Nat → List (Int × Int × Int × Int)
  | 0 => []
  | i + 1 => asksTo k cl xs i ++ asksQ k cl xs i
end Go.Proofs.YtdkanehjahpehaaGreatDoor
end

section
namespace Go.Proofs.YtdkanehjahpehaaGreatDoor
open Go.RowKit Go.Shelf
set_option maxRecDepth 100000
theorem iP5 : (Tryz.prog.info? 115).map (·.size) = some 1 := by kernel_rfl
theorem uPts : Tryz.prog.underlying 95 = some (.slice 115) := by kernel_rfl
theorem iPts : (Tryz.prog.info? 115).map (fun i => (i.zero.map (·.cells.size), i.size, i.bytes)) = some (some 1, 1, 8) := by kernel_rfl
theorem apP_of (xs : Array Value) (t : TypeId) : Builtin.append_ #[95, 95] t xs = APs #[95, 95] t xs := rfl

/-- From A on lie these pointers. -/
def RdP (w : World) (A : Option Addr) (l : List Value) : Prop := 0 < l.length → ∃ g off, A = some ⟨g, off, none⟩ ∧ g < w.heap.size ∧ ∀ j x, l[j]? = some x → w.cell? ⟨g, off + j, none⟩ = some x
theorem RdP.below {w w' : World} {A : Option Addr} {l : List Value} (h : RdP w A l) (hb : Below w.heap.size w w') : RdP w' A l := fun h0 => by
  obtain ⟨g, off, e, hg, hc⟩ := h h0
  exact ⟨g, off, e, Nat.lt_of_lt_of_le hg hb.size, fun j x hx => (hb.cell (p := ⟨g, off + j, none⟩) hg).trans (hc j x hx)⟩
theorem RdP.fr {w w' : World} {A : Option Addr} {l : List Value} {F : Nat → Prop} (h : RdP w A l) (hf : Fr F w w') (hn : ∀ a, A = some a → ¬ F a.block) : RdP w' A l := fun h0 => by
  obtain ⟨g, off, e, hg, hc⟩ := h h0
  exact ⟨g, off, e, Nat.lt_of_lt_of_le hg hf.size, fun j x hx => (hf.cell (p := ⟨g, off + j, none⟩) hg (hn ⟨g, off, none⟩ e)).trans (hc j x hx)⟩
/-- A row of one's own of pointers. -/
def OwnP (B : Nat) (w : World) (v : Value) (l : List Value) : Prop := w.ownsRow B 115 1 v l.length l
section
variable {B : Nat} {w w' : World} {v : Value} {l : List Value}
theorem OwnP.nil (B : Nat) (w : World) : OwnP B w (.slice none 0 0) [] := World.ownsRow_nil _ _ _ _
theorem OwnP.form (h : OwnP B w v l) : ∃ A c, v = .slice A l.length c := own_form h
theorem OwnP.formN (h : OwnP B w v l) : ∃ A N c, v = .slice A N c ∧ N = l.length := by
  obtain ⟨A, c, e⟩ := h.form
  exact ⟨A, _, c, e, rfl⟩
theorem OwnP.lt (h : OwnP B w v l) {k : Nat} (hk : v.ownBlock = some k) : B ≤ k ∧ k < w.heap.size := World.ownsRow.lt h k hk
theorem OwnP.fr {F : Nat → Prop} (h : OwnP B w v l) (hf : Fr F w w') (hn : ∀ k, v.ownBlock = some k → ¬ F k) : OwnP B w' v l := own_fr h hf hn
theorem OwnP.alloc (h : OwnP B w v l) (o : Obj) : OwnP B (w.alloc o) v l := World.ownsRow.alloc h o
theorem OwnP.keep (h : OwnP B w v l) (hb : Below w.heap.size w w') : OwnP B w' v l := h.fr (Fr.of_below hb) (fun k hk f => by have := (h.lt hk).2; omega)
theorem OwnP.rd (h : OwnP B w v l) : ∃ A c, v = .slice A l.length c ∧ RdP w A l ∧ l.length ≤ c ∧ (A = none → c = 0) ∧ ∀ a, A = some a → B ≤ a.block ∧ a.block < w.heap.size := by
  obtain ⟨h1, ⟨rfl, h3⟩ | ⟨g, cap, cur, rfl, hg, hh, hl, hm, hs, ht⟩⟩ := h
  · have hR : l = [] := List.length_eq_zero_iff.1 (by omega)
    subst hR
    exact ⟨none, 0, rfl, fun h => absurd h (by simp), by simp, fun _ => rfl, by simp⟩
  · have hgl : g < w.heap.size := (Array.getElem?_eq_some_iff.1 hh).1
    refine ⟨some ⟨g, 0, none⟩, cap, rfl, fun _ => ⟨g, 0, rfl, hgl, fun k x hx => ?_⟩, hl, by simp, fun a e => by cases e; exact ⟨hg, hgl⟩⟩
    have hk := (List.getElem?_eq_some_iff.1 hx).1
    rw [Nat.zero_add, cell_of_row w g _ cur _ (0, 0) hh]
    have hf := congrArg (fun q : List Value => q[k]?) ht
    simp only [Nat.mul_one, List.getElem?_take, hk, if_true, hx] at hf
    simpa using hf
end
theorem appP {ty : TypeId} {B : Nat} {w : World} {v : Value} {l m : List Value} {a : Addr} {c : Nat} (h : OwnP B w v l) (hm : ∀ j x, m[j]? = some x → w.cell? (a.add j) = some x) (h1 : ∀ u ∈ m, u.oneCell' = true) (hlen : l.length + m.length ≤ 1000000000) (hB : B ≤ w.heap.size) :
    ∃ v' w', (APs #[95, 95] ty #[v, .slice (some a) m.length c]).run Tryz.prog w = .ok v' w' ∧ OwnP B w' v' (l ++ m) ∧ Fr (fun k => v.ownBlock = some k) w w' ∧ Foot w v v' := by
  obtain ⟨v', w', h1, h2, h3, h4⟩ := APs_own (P := Tryz.prog) (ty := ty) uPts iPts (by omega) h (a := a) (m := m.length) (c := c) m (by omega) hm h1 (by unfold maxLen; omega) (by omega) hB
  refine ⟨v', w', h1, ?_, (Fr.refl _ w).grown h3 (fun k _ e => e), ?_⟩
  · unfold OwnP
    rw [List.length_append]
    exact h2
  · intro j hj
    rcases h4 with e | e
    · exact .inl (e ▸ hj)
    · right
      rw [e] at hj
      injection hj with hj
      omega
/-- One pointer more, which is laid in a block of its own ahead. -/
theorem appP_one {ty : TypeId} {B : Nat} {w : World} {v : Value} {l : List Value} {x : Value} (h : OwnP B w v l) (hx : x.oneCell' = true) (hlen : l.length + 1 ≤ 1000000000) (hB : B ≤ w.heap.size) :
    ∃ v' w', (APs #[95, 95] ty #[v, .slice (some ⟨w.heap.size, 0, none⟩) 1 1]).run Tryz.prog (w.alloc (.cells #[x] 115)) = .ok v' w' ∧ OwnP B w' v' (l ++ [x]) ∧ Fr (fun k => v.ownBlock = some k) w w' ∧ Foot w v v' := by
  have hb : Blk (w.alloc (.cells #[x] 115)) w.heap.size 115 #[x] := Blk.new w _ _
  obtain ⟨v', w', h1, h2, h3, h4⟩ := appP (ty := ty) (a := ⟨w.heap.size, 0, none⟩) (m := [x]) (c := 1) (h.alloc (.cells #[x] 115)) (fun j u hu => by
    match j, hu with
    | 0, hu => rw [show (⟨w.heap.size, 0, none⟩ : Addr).add 0 = ⟨w.heap.size, 0, none⟩ from rfl, hb.cell 0]; simpa using hu
    | j + 1, hu => simp at hu) (by simpa using hx) (by simpa using hlen) (by simp; omega)
  refine ⟨v', w', h1, h2, ((Fr.refl _ w).alloc _).trans h3 (fun k _ e => e), ?_⟩
  intro j hj
  rcases h4 j hj with e | e
  · exact .inl e
  · right; simp at e; omega
theorem OwnP.step {B : Nat} {w w' : World} {v : Value} {l : List Value} (h : OwnP B w v l) (hf : Fr (fun k => v.ownBlock = some k) w w') (hB : B ≤ w.heap.size) : Below B w w' :=
  hf.below hB (fun k hk e => by have := (h.lt e).1; omega)

/-- A row of rows of pointers. -/
structure PtsV (w : World) (A : Option Addr) (xs : List Value) (L : List (List Value)) : Prop where
  len : xs.length = L.length
  cell : 0 < xs.length → ∃ g off, A = some ⟨g, off, none⟩ ∧ g < w.heap.size ∧ ∀ j x, xs[j]? = some x → w.cell? ⟨g, off + j, none⟩ = some x
  txt : ∀ i (h : i < xs.length) (h' : i < L.length), ∃ A c, xs[i] = .slice A L[i].length c ∧ RdP w A L[i] ∧ (A = none → c = 0) ∧ ∀ u ∈ L[i], u.oneCell' = true
/-- An append of pointers, wherever they lie. -/
theorem appPM {ty : TypeId} {B : Nat} {w : World} {v : Value} {l m : List Value} {A : Option Addr} {c : Nat} (h : OwnP B w v l) (hm : RdP w A m) (hlen : l.length + m.length ≤ 1000000000) (hB : B ≤ w.heap.size) (hc : A = none → c = 0) (h1 : ∀ u ∈ m, u.oneCell' = true) :
    ∃ v' w', (APs #[95, 95] ty #[v, .slice A m.length c]).run Tryz.prog w = .ok v' w' ∧ OwnP B w' v' (l ++ m) ∧ Fr (fun k => v.ownBlock = some k) w w' ∧ Foot w v v' := by
  cases A with
  | none =>
    have e : m = [] := by
      cases m with
      | nil => rfl
      | cons x r =>
        obtain ⟨g, o, e, _⟩ := hm (by simp)
        cases e
    subst e
    obtain rfl := hc rfl
    obtain ⟨i, hi⟩ := Option.map_eq_some_iff.1 iP5
    refine ⟨v, w, run_append_owned_none w B 95 ty 115 i 1 uPts hi.1 v l.length l h, by simpa using h, Fr.refl _ _, Foot.refl _ _⟩
  | some a =>
    refine appP (ty := ty) h (fun j x hx => ?_) h1 hlen hB
    have hj : j < m.length := (List.getElem?_eq_some_iff.1 hx).1
    obtain ⟨g, o, e, _, hcell⟩ := hm (by omega)
    cases e
    have hadd : (⟨g, o, none⟩ : Addr).add j = ⟨g, o + j, none⟩ := by unfold Addr.add; split <;> simp_all
    rw [hadd]
    exact hcell j x hx

theorem slcP (x : Value) (lo hi mx : Option Value) : Instr.sliceAt 95 x lo hi mx = SLs 95 x lo hi mx := rfl
theorem apPZ_of (xs : Array Value) (t : TypeId) : Builtin.append_ #[95, 3] t xs = APs #[95, 3] t xs := rfl
attribute [local go_sem ↓] apP_of apPZ_of slcP

theorem izP : (Tryz.prog.info? 115).map (fun i => (i.zero, i.size, i.bytes)) = some (some (.pointer none), 1, 8) := by kernel_rfl

/-- A row of one's own, cut to nothing. -/
theorem OwnP.none_ {B g cap : Nat} {w : World} {cur : Array Value} (hB : B ≤ g) (hb : Blk w g 115 cur) (hs : cur.size = cap) (hm : cap ≤ maxLen) : OwnP B w (.slice (some ⟨g, 0, none⟩) 0 cap) [] :=
  ⟨rfl, .inr ⟨g, cap, cur, rfl, hB, hb, Nat.zero_le _, hm, by omega, by simp⟩⟩

theorem SLsP_head {w : World} {g n cap : Nat} (hn : 0 < cap) (h : Int) (e : h = 0) : (SLs 95 (.slice (some ⟨g, 0, none⟩) n cap) none (some (.int .i64 h)) none).run Tryz.prog w = .ok (.slice (some ⟨g, 0, none⟩) 0 cap) w := by
  subst e
  obtain ⟨i, hq, hi⟩ := Option.map_eq_some_iff.1 iP5
  have hne : ¬ cap = 0 := by omega
  simp [SLs, Instr.sliceAt, Instr.slice, Instr.sliceBounds, Instr.sliceBound, asIntOf, run_underlying uPts, sizeOf, typeInfo, hq, Addr.add]
theorem SLsP_nil {w : World} (h : Int) (e : h = 0) : (SLs 95 (.slice none 0 0) none (some (.int .i64 h)) none).run Tryz.prog w = .ok (.slice none 0 0) w := by
  subst e
  obtain ⟨i, hq, hi⟩ := Option.map_eq_some_iff.1 iP5
  simp [SLs, Instr.sliceAt, Instr.slice, Instr.sliceBounds, Instr.sliceBound, asIntOf, run_underlying uPts, sizeOf, typeInfo, hq]

set_option maxHeartbeats 2000000 in
theorem growP_nil (n : Nat) (hn : n ≤ 1000000) (w : World) :
    Calls Tryz.prog 138 #[.slice none 0 0, .int .i64 (n : Int)] w fun e w' => ∃ v, e = .returned v ∧ OwnP w.heap.size w' v [] ∧ Below w.heap.size w w' := by
  by_cases h0 : n = 0
  · subst h0
    go_enter Tryz.func138, Tryz.ntmps138
    go_wp2
    go_ret
    exact ⟨_, rfl, OwnP.nil _ _, Below.refl _ _⟩
  · obtain ⟨i0, hi, hh⟩ := Option.map_eq_some_iff.1 izP
    simp only [Prod.mk.injEq] at hh
    obtain ⟨hz0, hz1, hz2⟩ := hh
    have happ0 := Lib.run_append_nil_zeros (P := Tryz.prog) w 95 3 95 115 i0 (.pointer none) .i64 .i64 uPts uI64 hi hz0 n (by omega) (by omega) (by omega) (by rw [hz2]; omega)
    have happ : (APs #[95, 3] 95 #[.slice none 0 0, .int .i64 (n : Int)]).run Tryz.prog w = _ := happ0
    clear happ0
    have hge := grownCap_ge w n 0 115
    have hle := grownCap_le_maxLen w n 0 115 (by unfold maxLen; omega)
    obtain ⟨cap, hcap⟩ : ∃ cap, grownCap w n 0 115 = cap := ⟨_, rfl⟩
    rw [hcap] at happ hge hle
    obtain ⟨Z, hZ⟩ : ∃ Z, Builtin.zeroCells (Value.pointer none).cells n ++ Builtin.zeroCells (Value.pointer none).cells (cap - n) = Z := ⟨_, rfl⟩
    rw [hZ] at happ
    have hZs : Z.size = cap := by rw [← hZ]; simp [size_zeroCells, Value.cells]; omega
    clear hcap hZ hi hz0 hz1 hz2 i0
    have hsl : ∀ W : World, (SLs 95 (.slice (some ⟨w.heap.size, 0, none⟩) n cap) none (some (.int .i64 0)) none).run Tryz.prog W = .ok (.slice (some ⟨w.heap.size, 0, none⟩) 0 cap) W := fun W => SLsP_head (by omega) 0 rfl
    have hsl0 : ∀ W : World, (SLs 95 (.slice none 0 0) none (some (.int .i64 0)) none).run Tryz.prog W = .ok (.slice none 0 0) W := fun W => SLsP_nil 0 rfl
    have hpos : (0 : Int) < (n : Int) := by omega
    go_enter Tryz.func138, Tryz.ntmps138
    go_wp2
    first
      | (go_ret
         refine ⟨_, rfl, OwnP.none_ (Nat.le_refl _) ((Blk.new w _ Z).drew) hZs hle, ((Below.refl _ w).alloc (Nat.le_refl _) _).drew⟩)

set_option maxHeartbeats 4000000 in
theorem concatP_any (A : Option Addr) (c : Nat) (xs : List Value) (L : List (List Value)) (w : World) (h : PtsV w A xs L) (hL : L.length ≤ 1000) (hlen : L.flatten.length ≤ 900000) :
    Calls Tryz.prog 89 #[.slice A L.length c] w fun e w' => ∃ v, e = .returned v ∧ OwnP w.heap.size w' v L.flatten ∧ Below w.heap.size w w' := by
  have H := Lib.hid h
  have HL := Lib.hid hlen
  clear h hlen
  have hpre : ∀ i, i < L.length → (L.take i).flatten.length + (L.getD i []).length = (L.take (i + 1)).flatten.length := fun i hi => by
    rw [List.take_succ_eq_append_getElem hi, List.flatten_append, List.flatten_singleton, List.length_append]
    have e : L.getD i [] = L[i] := by simp [List.getD, hi]
    rw [e]
  have hbd : ∀ i, (L.take i).flatten.length ≤ 900000 := fun i => by
    have := HL.out
    have e : L.flatten = (L.take i).flatten ++ (L.drop i).flatten := by rw [← List.flatten_append, List.take_append_drop]
    rw [e, List.length_append] at this
    omega
  have HP := Lib.hid hpre
  have HB := Lib.hid hbd
  clear hpre hbd
  go_enter Tryz.func89, Tryz.ntmps89
  go_wp2
  go_loopw [3, 11] (fun s t wr => ∃ i : Nat, i ≤ L.length ∧ s = .int .i64 ((L.take i).flatten.length : Nat) ∧ t = .int .i64 i ∧ wr = w)
    (fun _ t _ => L.length - (intOf t).toNat)
  case atStart => exact ⟨0, Nat.zero_le _, by simp, rfl, rfl⟩
  case round =>
    obtain ⟨i, hi, rfl, rfl, rfl⟩ := hrel
    by_cases hlt : i < L.length
    · obtain ⟨g, off, rfl, hg, hc⟩ := H.out.cell (by rw [H.out.len]; omega)
      have hx : i < xs.length := by rw [H.out.len]; exact hlt
      have hcx := hc i xs[i] (by simp [hx])
      obtain ⟨Ai, ci, hxi, hby, hn, hone⟩ := H.out.txt i hx hlt
      rw [hxi] at hcx
      have e1 := HP.out i hlt
      have e2 := HB.out (i + 1)
      have e3 : L.getD i [] = L[i] := by simp [List.getD, hlt]
      rw [e3] at e1
      obtain ⟨s, hs⟩ : ∃ s, (L.take i).flatten.length = s := ⟨_, rfl⟩
      obtain ⟨m, hm⟩ : ∃ m, L[i].length = m := ⟨_, rfl⟩
      rw [hs, hm] at e1
      rw [hm] at hcx
      rw [hs]
      have b1 : (s : Int) + (m : Int) ≤ 900000 := by omega
      have E1 := Lib.hid e1
      clear hxi hby hn hone hc e3 hs hm hx e1 e2
      go_wp2
      go_roundw
      case rel => exact ⟨i + 1, by omega, by rw [← E1.out]; go_num, by go_num, by first | rfl | trivial⟩
      case measure => simp [intOf]; omega
    · obtain rfl : i = L.length := by omega
      have e2 := HB.out L.length
      obtain ⟨s, hs⟩ : ∃ s, (L.take L.length).flatten.length = s := ⟨_, rfl⟩
      rw [hs] at e2 ⊢
      clear hs
      go_wp2_with fail
      refine (growP_nil s (by omega) wr).mono ?_
      rintro e w1 ⟨v, rfl, ho, hb1⟩
      go_wp2_with fail
      go_loopw [6, 27] (fun v t wx => ∃ i : Nat, i ≤ L.length ∧ t = .int .i64 i ∧ OwnP wr.heap.size wx v (L.take i).flatten ∧ Below wr.heap.size wr wx)
        (fun _ t _ => L.length - (intOf t).toNat)
      case atStart => exact ⟨0, Nat.zero_le _, rfl, by simpa using ho, hb1⟩
      case round =>
        clear ho hb1 e2
        obtain ⟨i, hi, rfl, ho, hb⟩ := hrel
        by_cases hlt : i < L.length
        · obtain ⟨g, off, rfl, hg, hc⟩ := H.out.cell (by rw [H.out.len]; omega)
          have hx : i < xs.length := by rw [H.out.len]; exact hlt
          obtain ⟨Ai, ci, hxi, hby, hn, hone⟩ := H.out.txt i hx hlt
          have hcx := hc i xs[i] (by simp [hx])
          rw [hxi] at hcx
          have hcx' := (hb.cell (p := ⟨g, off + i, none⟩) hg).trans hcx
          have e1 := HP.out i hlt
          have e2 := HB.out (i + 1)
          have e3 : L.getD i [] = L[i] := by simp [List.getD, hlt]
          rw [e3] at e1
          have e4 : (L.take (i + 1)).flatten = (L.take i).flatten ++ L[i] := by rw [List.take_succ_eq_append_getElem hlt, List.flatten_append, List.flatten_singleton]
          obtain ⟨m, hm⟩ : ∃ m, L[i] = m := ⟨_, rfl⟩
          rw [hm] at hcx' hby e1 e4 hone
          obtain ⟨l, hl⟩ : ∃ l, (L.take i).flatten = l := ⟨_, rfl⟩
          rw [hl] at ho e1 e4
          obtain ⟨A2, c2, rfl⟩ := OwnP.form ho
          obtain ⟨v', w', hap, ho', hf', _⟩ := appPM (ty := 95) ho (hby.below hb) (by omega) hb.size hn hone
          obtain ⟨A3, c3, rfl⟩ := OwnP.form ho'
          rw [List.length_append] at ho' hap
          have E4 := Lib.hid e4
          have HO := Lib.hid ho'
          have HF := Lib.hid hf'
          have HBw := Lib.hid hb
          have HO0 := Lib.hid ho
          clear hxi hby hn hone hc hcx e3 hm hl hx e1 e2 e4 ho ho' hf' hb
          go_wp2_with fail
          go_roundw
          case rel =>
            refine ⟨i + 1, by omega, by go_num, by rw [E4.out]; exact HO.out, HBw.out.trans (HF.out.below HBw.out.size (fun k hk e => ?_))⟩
            have := (OwnP.lt HO0.out e).1
            omega
          case measure => simp [intOf]; omega
        · obtain rfl : i = L.length := by omega
          have HO := Lib.hid ho
          clear ho
          go_wp2_with fail
          go_ret
          refine ⟨_, rfl, ?_, hb⟩
          have := HO.out
          rw [List.take_length] at this
          exact this
end Go.Proofs.YtdkanehjahpehaaGreatDoor
end

section
namespace Go.Proofs.YtdkanehjahpehaaGreatDoor
open Go.RowKit Go.Shelf
set_option maxRecDepth 100000

/-- A task's cells: its command, its shard and number, what changes, its reply. -/
def taskL (pre : List Value) (s n : Int) (x : TkD) (post : List Value) : List Value :=
  pre ++ ([.int .i64 s, .int .i64 n, .int .i64 (x.r : Int), .int .i64 x.c, .bool x.ch, .bool false] ++ post)
theorem taskL_get (pre : List Value) (s n : Int) (x : TkD) (post : List Value) (h : pre.length = 73) (j : Nat) (hj : j < 6) : (taskL pre s n x post).toArray[73 + j]? = ([.int .i64 s, .int .i64 n, .int .i64 (x.r : Int), .int .i64 x.c, .bool x.ch, .bool false] : List Value)[j]? := by
  unfold taskL
  rw [List.getElem?_toArray, List.getElem?_append_right (by omega), h, List.getElem?_append_left (by simp; omega)]
  congr 1
  omega
theorem taskL_pre (pre : List Value) (s n : Int) (x : TkD) (post : List Value) (h : pre.length = 73) : ((taskL pre s n x post).toArray.toList.drop 0).take 73 = pre := by
  unfold taskL
  simp [← h]
theorem taskL_set (pre : List Value) (s n : Int) (x : TkD) (post : List Value) (h : pre.length = 73) (j : Nat) (hj : j < 6) (u : Value) : (taskL pre s n x post).toArray.setIfInBounds (73 + j) u = (pre ++ (([.int .i64 s, .int .i64 n, .int .i64 (x.r : Int), .int .i64 x.c, .bool x.ch, .bool false] : List Value).set j u ++ post)).toArray := by
  unfold taskL
  apply Array.ext'
  rw [Array.toList_setIfInBounds, List.set_append_right _ _ (by omega), h, List.set_append_left _ _ (by simp; omega)]
  congr 3
  omega
structure IsTask (w : World) (kb : Nat) (pre : List Value) (s n : Int) (x : TkD) (post : List Value) : Prop where
  blk : Blk w kb 117 (taskL pre s n x post).toArray
  len : pre.length = 73
section
variable {w w' : World} {kb : Nat} {pre post : List Value} {s n : Int} {x : TkD}
theorem IsTask.fr {F : Nat → Prop} (h : IsTask w kb pre s n x post) (hf : Fr F w w') (hn : ¬ F kb) : IsTask w' kb pre s n x post := ⟨h.blk.fr hf hn, h.len⟩
theorem IsTask.sh (h : IsTask w kb pre s n x post) : w.cell? ⟨kb, 73, none⟩ = some (.int .i64 s) := (h.blk.cell 73).trans (taskL_get pre s n x post h.len 0 (by omega))
theorem IsTask.nu (h : IsTask w kb pre s n x post) : w.cell? ⟨kb, 74, none⟩ = some (.int .i64 n) := (h.blk.cell 74).trans (taskL_get pre s n x post h.len 1 (by omega))
theorem IsTask.re (h : IsTask w kb pre s n x post) : w.cell? ⟨kb, 75, none⟩ = some (.int .i64 (x.r : Int)) := (h.blk.cell 75).trans (taskL_get pre s n x post h.len 2 (by omega))
theorem IsTask.co (h : IsTask w kb pre s n x post) : w.cell? ⟨kb, 76, none⟩ = some (.int .i64 x.c) := (h.blk.cell 76).trans (taskL_get pre s n x post h.len 3 (by omega))
theorem IsTask.ch (h : IsTask w kb pre s n x post) : w.cell? ⟨kb, 77, none⟩ = some (.bool x.ch) := (h.blk.cell 77).trans (taskL_get pre s n x post h.len 4 (by omega))
theorem IsTask.dn (h : IsTask w kb pre s n x post) : w.cell? ⟨kb, 78, none⟩ = some (.bool false) := (h.blk.cell 78).trans (taskL_get pre s n x post h.len 5 (by omega))
theorem IsTask.setR (h : IsTask w kb pre s n x post) (r : Nat) : IsTask (w.setCell ⟨kb, 75, none⟩ (.int .i64 (r : Int))) kb pre s n ⟨r, x.c, x.ch⟩ post := ⟨by
  have := h.blk.set_ 75 (.int .i64 (r : Int))
  rw [taskL_set pre s n x post h.len 2 (by omega)] at this
  exact this, h.len⟩
theorem IsTask.setC (h : IsTask w kb pre s n x post) (c : Int) : IsTask (w.setCell ⟨kb, 76, none⟩ (.int .i64 c)) kb pre s n ⟨x.r, c, x.ch⟩ post := ⟨by
  have := h.blk.set_ 76 (.int .i64 c)
  rw [taskL_set pre s n x post h.len 3 (by omega)] at this
  exact this, h.len⟩
theorem IsTask.setH (h : IsTask w kb pre s n x post) (b : Bool) : IsTask (w.setCell ⟨kb, 77, none⟩ (.bool b)) kb pre s n ⟨x.r, x.c, b⟩ post := ⟨by
  have := h.blk.set_ 77 (.bool b)
  rw [taskL_set pre s n x post h.len 4 (by omega)] at this
  exact this, h.len⟩
end

/-- A driver's cells. -/
def drvV (cl n k : Int) (A1 : Option Addr) (c1 : Nat) (A2 : Option Addr) (c2 : Nat) (t : TxD) (first last : Value) (num oc : Int) (out : Value) : Array Value :=
  #[.int .i64 cl, .int .i64 n, .int .i64 k, .slice A1 t.ins.length c1, .slice A2 t.outs.length c2, .int .u64 t.fee, .int .i64 t.exp, first, last, .int .i64 num, .int .i64 oc, out]
/-- A request: its shard, replica, client, number; its text has more than 70 bytes. -/
def ReqIs (r : List Value) (q : Int × Int × Int × Int) : Prop := ∃ A L c, 70 < L ∧ r = [.int .i64 q.1, .int .i64 q.2.1, .int .i64 q.2.2.1, .int .i64 q.2.2.2, .slice A L c]
def Reqs (R : List (List Value)) (Q : List (Int × Int × Int × Int)) : Prop := R.length = Q.length ∧ ∀ j (h : j < R.length) (h' : j < Q.length), ReqIs R[j] Q[j]
theorem Reqs.nil : Reqs [] [] := ⟨rfl, fun j h => absurd h (by simp)⟩
theorem Reqs.snoc {R : List (List Value)} {Q : List (Int × Int × Int × Int)} (h : Reqs R Q) {r : List Value} {q : Int × Int × Int × Int} (hr : ReqIs r q) : Reqs (R ++ [r]) (Q ++ [q]) := by
  obtain ⟨hl, ha⟩ := h
  refine ⟨by simp [hl], fun j hj hj' => ?_⟩
  by_cases hjl : j < R.length
  · rw [List.getElem_append_left hjl, List.getElem_append_left (by omega)]
    exact ha j hjl (by omega)
  · obtain rfl : j = R.length := by simp at hj; omega
    rw [List.getElem_append_right (by omega), List.getElem_append_right (by omega)]
    simpa using hr
end Go.Proofs.YtdkanehjahpehaaGreatDoor
end

section
namespace Go.Proofs.YtdkanehjahpehaaGreatDoor
open Go.RowKit Go.Shelf
set_option maxRecDepth 100000

section
variable {w : World} {D : Nat} {cl n k : Int} {A1 : Option Addr} {c1 : Nat} {A2 : Option Addr} {c2 : Nat} {t : TxD} {first last : Value} {num oc : Int} {out : Value}
set_option maxHeartbeats 2000000 in
theorem out_any (h : Blk w D 97 (drvV cl n k A1 c1 A2 c2 t first last num oc out)) :
    Calls Tryz.prog 11 #[.pointer (some ⟨D, 0, none⟩)] w fun e w' => e = .returned out ∧ Blk w' D 97 (drvV cl n k A1 c1 A2 c2 t first last num oc (.slice none 0 0)) ∧ Fr (fun k => k = D) w w' := by
  have q := h.cell 11
  have q11 : w.cell? ⟨D, 11, none⟩ = some out := q
  have z11 := h.frozen 11
  have h2 : Blk (w.setCell ⟨D, 11, none⟩ (.slice none 0 0)) D 97 (drvV cl n k A1 c1 A2 c2 t first last num oc (.slice none 0 0)) := by simpa [drvV] using h.set_ 11 (.slice none 0 0)
  have f2 : Fr (fun k => k = D) w (w.setCell ⟨D, 11, none⟩ (.slice none 0 0)) := (Fr.refl (fun k => k = D) w).setCell (p := ⟨D, 11, none⟩) (fun _ => rfl) _
  have H2 := Lib.hid h2
  have F2 := Lib.hid f2
  clear h2 f2 h q
  go_enter Tryz.func11, Tryz.ntmps11
  go_wp2_with fail
  go_ret
  exact ⟨rfl, H2.out, F2.out⟩
theorem outcome_any (h : Blk w D 97 (drvV cl n k A1 c1 A2 c2 t first last num oc out)) :
    Calls Tryz.prog 15 #[.pointer (some ⟨D, 0, none⟩)] w fun e w' => e = .returned (.int .i64 oc) ∧ w' = w := by
  have q : w.cell? ⟨D, 10, none⟩ = some (.int .i64 oc) := h.cell 10
  clear h
  go_enter Tryz.func15, Tryz.ntmps15
  go_wp2_with fail
  go_ret
  exact ⟨rfl, rfl⟩
theorem ended_not (h : Blk w D 97 (drvV cl n k A1 c1 A2 c2 t first last num 0 out)) :
    Calls Tryz.prog 14 #[.pointer (some ⟨D, 0, none⟩)] w fun e w' => e = .returned (.bool false) ∧ w' = w := by
  have q : w.cell? ⟨D, 10, none⟩ = some (.int .i64 0) := h.cell 10
  clear h
  go_enter Tryz.func14, Tryz.ntmps14
  go_wp2_with fail
  go_ret
  exact ⟨rfl, rfl⟩
end

section
variable {w : World} {D : Nat} {cl n : Int} {k : Nat} {A1 : Option Addr} {c1 : Nat} {A2 : Option Addr} {c2 : Nat} {t : TxD} {first last : Value} {num oc : Int} {out : Value} {kb : Nat} {pre post : List Value} {s nu : Int} {x : TkD}
set_option maxHeartbeats 4000000 in
theorem turn_any (h : Blk w D 97 (drvV cl n k A1 c1 A2 c2 t first last num oc out)) (hk : IsTask w kb pre s nu x post) (h1 : 1 ≤ k) (h7 : k ≤ 7) (hr : x.r < k) :
    Calls Tryz.prog 45 #[.pointer (some ⟨D, 0, none⟩), .pointer (some ⟨kb, 0, none⟩)] w fun e w' => e = .returned (.tuple #[]) ∧ IsTask w' kb pre s nu ⟨(x.r + 1) % k, x.c, x.ch⟩ post ∧ Fr (fun k => k = kb) w w' := by
  have q : w.drew.cell? ⟨D, 2, none⟩ = some (.int .i64 (k : Int)) := h.drew.cell 2
  have hkd : IsTask w.drew kb pre s nu x post := ⟨hk.blk.drew, hk.len⟩
  have q75 := hkd.re
  have z75 := hkd.blk.frozen 75
  have h20 := hk.setR ((x.r + 1) % k)
  have h2 : IsTask (w.setCell ⟨kb, 75, none⟩ (.int .i64 (((x.r + 1) % k : Nat) : Int))).drew kb pre s nu ⟨(x.r + 1) % k, x.c, x.ch⟩ post := ⟨h20.blk.drew, h20.len⟩
  have f2 : Fr (fun k => k = kb) w (w.setCell ⟨kb, 75, none⟩ (.int .i64 (((x.r + 1) % k : Nat) : Int))).drew := ((Fr.refl (fun k => k = kb) w).setCell (p := ⟨kb, 75, none⟩) (fun _ => rfl) _).drew
  obtain ⟨r, hr0⟩ : ∃ r, x.r = r := ⟨_, rfl⟩
  rw [hr0] at q75 h2 f2 hr ⊢
  have hk0 : ¬ k = 0 := by omega
  have hwr : IntKind.i64.wrap ((r : Int) + 1) = (r : Int) + 1 := by rw [IntKind.wrap_i64]; omega
  have hrm : ((r : Int) + 1).tmod (k : Int) = (((r + 1) % k : Nat) : Int) := by
    rw [Int.tmod_eq_emod_of_nonneg (by omega)]
    rfl
  obtain ⟨S0, hS0⟩ : ∃ S0 : World → Prop, (fun X => X = w.drew) = S0 := ⟨_, rfl⟩
  have hS1 : S0 w.drew := by rw [← hS0]
  obtain ⟨r2, hr2⟩ : ∃ x, (r + 1) % k = x := ⟨_, rfl⟩
  rw [hr2] at h2 f2 hrm ⊢
  have H2 := Lib.hid h2
  have F2 := Lib.hid f2
  have HSE := Lib.hid hS0
  have HS1 := Lib.hid hS1
  clear h2 f2 hS0 hS1 h hk hkd h20 hr0 hr2 h1 h7 hr
  go_enter Tryz.func45, Tryz.ntmps45
  refine wp_txO [(0, 3), (1, 3), (2, 3), (3, 3), (6, 3), (7, 3), (8, 3), (4, 0), (5, 3), (9, 0), (10, 3), (11, 3), (12, 3), (13, 2)] S0 (by kernel_rfl) (by kernel_rfl) (by kernel_rfl) (by kernel_rfl) HS1.out ?_
  iterate 7 (with_reducible refine wpTxO_evN (o := ?_) (v := ?_) (a' := ?_) (by with_unfolding_all rfl) (by with_unfolding_all rfl) (fun W' => ?_) ?_ ?_; rotate_left 2; (focus (go_simp <;> with_reducible rfl)); focus (go_simp <;> with_reducible rfl))
  iterate 1 (with_reducible refine wpTxO_takeN (o := ?_) (v := ?_) (a' := ?_) (by with_unfolding_all rfl) (by with_unfolding_all rfl) (fun W' hS => ?_) ?_ ?_; rotate_left 2; (focus (rw [← HSE.out] at hS; rw [hS]; go_simp <;> with_reducible rfl)); focus (go_simp <;> with_reducible rfl))
  iterate 1 (with_reducible refine wpTxO_evN (o := ?_) (v := ?_) (a' := ?_) (by with_unfolding_all rfl) (by with_unfolding_all rfl) (fun W' => ?_) ?_ ?_; rotate_left 2; (focus (go_simp <;> with_reducible rfl)); focus (go_simp <;> with_reducible rfl))
  iterate 1 (with_reducible refine wpTxO_takeN (o := ?_) (v := ?_) (a' := ?_) (by with_unfolding_all rfl) (by with_unfolding_all rfl) (fun W' hS => ?_) ?_ ?_; rotate_left 2; (focus (rw [← HSE.out] at hS; rw [hS]; go_simp <;> with_reducible rfl)); focus (go_simp <;> with_reducible rfl))
  iterate 3 (with_reducible refine wpTxO_evN (o := ?_) (v := ?_) (a' := ?_) (by with_unfolding_all rfl) (by with_unfolding_all rfl) (fun W' => ?_) ?_ ?_; rotate_left 2; (focus (go_simp <;> with_reducible rfl)); focus (go_simp <;> with_reducible rfl))
  with_reducible refine wpTxO_last (o := ?_) (by with_unfolding_all rfl) (by with_unfolding_all rfl) (fun K hK => ?_)
  try simp only [List.getElem_toArray, List.getElem_cons_succ, List.getElem_cons_zero]
  go_simp
  with_reducible refine hK _ _ ?_
  clear hK K
  with_reducible refine wpTxO_nil ?_
  rw [noPan_normal]
  go_end0
  exact ⟨rfl, H2.out, F2.out⟩
end
end Go.Proofs.YtdkanehjahpehaaGreatDoor
end

section
namespace Go.Proofs.YtdkanehjahpehaaGreatDoor
open Go.RowKit Go.Shelf
set_option maxRecDepth 100000

theorem bdReq_of (parts : Array (Nat × Value)) : Instr.build 41 parts = BDs 41 parts := rfl
theorem bsReq_of (n : Nat) (parts : Array (Nat × Value)) : Instr.buildSlice 35 n parts = BSs 35 n parts := rfl
theorem apReq_of (xs : Array Value) (t : TypeId) : Builtin.append_ #[35, 35] t xs = APs #[35, 35] t xs := rfl
theorem uReqS : Tryz.prog.underlying 35 = some (.slice 41) := by kernel_rfl
theorem iReqZ : (Tryz.prog.info? 41).map (fun i => (i.zero.map (·.cells.size), i.size)) = some (some 5, 5) := by kernel_rfl
theorem iReqR : (Tryz.prog.info? 41).map (fun i => (i.zero.map (·.cells.size), i.size, i.bytes)) = some (some 5, 5, 56) := by kernel_rfl
theorem bdReq (a b c d : Int) (A : Option Addr) (l k : Nat) (w : World) : (BDs 41 #[(0, .int .i64 a), (1, .int .i64 b), (2, .int .i64 c), (3, .int .i64 d), (4, .slice A l k)]).run Tryz.prog w = .ok (.agg #[.int .i64 a, .int .i64 b, .int .i64 c, .int .i64 d, .slice A l k]) w := by kernel_rfl
attribute [local go_sem ↓] ldCmd_of bdReq_of bsReq_of apReq_of

/-- What is behind a request. -/
def SentPost (B D kb : Nat) (cl n k : Int) (A1 : Option Addr) (c1 : Nat) (A2 : Option Addr) (c2 : Nat) (t : TxD) (first last : Value) (num oc : Int) (pre : List Value) (s nu : Int) (x : TkD) (post : List Value) (out : Value) (Q : List (Int × Int × Int × Int)) (w w' : World) : Prop :=
  ∃ out' R', Blk w' D 97 (drvV cl n k A1 c1 A2 c2 t first last num oc out') ∧ OwnR 41 5 B w' out' R' ∧ Reqs R' (Q ++ [(s, (x.r : Int), cl, nu)]) ∧ IsTask w' kb pre s nu ⟨x.r, 12, false⟩ post ∧ Fr (fun k => k = D ∨ k = kb ∨ out.ownBlock = some k) w w' ∧ Foot w out out'

set_option maxHeartbeats 16000000 in
theorem send_any {w : World} {B D : Nat} {cl n k : Int} {A1 : Option Addr} {c1 : Nat} {A2 : Option Addr} {c2 : Nat} {t : TxD} {first last : Value} {num oc : Int} {out : Value} {kb : Nat} {post : List Value} {s nu : Int} {x : TkD} {R : List (List Value)} {Q : List (Int × Int × Int × Int)}
    (hck : checkP t = 0) (hL : 70 < (lockF t).length) (ht : TxAt w A1 A2 t) (h : Blk w D 97 (drvV cl n k A1 c1 A2 c2 t first last num oc out)) (hk : IsTask w kb (cmdV 3 A1 c1 A2 c2 t) s nu x post)
    (hO : OwnR 41 5 B w out R) (hR : Reqs R Q) (hB : B ≤ w.heap.size) (hQ : Q.length ≤ 1000) :
    Calls Tryz.prog 49 #[.pointer (some ⟨D, 0, none⟩), .pointer (some ⟨kb, 0, none⟩)] w fun e w' => e = .returned (.tuple #[]) ∧ SentPost B D kb cl n k A1 c1 A2 c2 t first last num oc (cmdV 3 A1 c1 A2 c2 t) s nu x post out Q w w' := by
  have hDk : D ≠ kb := h.ne_ hk.blk (by decide)
  have hld := LDs_aggB (P := Tryz.prog) uCmd iCmd hk.blk (off := 0) (cmdV 3 A1 c1 A2 c2 t) (cmdV_len _ _ _ _ _ _) (taskL_pre _ _ _ _ _ hk.len)
  have hput := cmdput_lock A1 c1 A2 c2 t hck w ht
  obtain ⟨cv, hcv⟩ : ∃ x, cmdV 3 A1 c1 A2 c2 t = x := ⟨_, rfl⟩
  rw [hcv] at hld hput hk ⊢
  obtain ⟨cw, hcw⟩ : ∃ x, cv.toArray = x := ⟨_, rfl⟩
  rw [hcw] at hld hput
  obtain ⟨F, hF⟩ : ∃ x, lockF t = x := ⟨_, rfl⟩
  rw [hF] at hput hL
  have H := Lib.hid h
  have HK := Lib.hid hk
  have HO := Lib.hid hO
  have HR := Lib.hid hR
  clear h hk hO hR hck ht hcv hcw hF
  go_enter Tryz.func49, Tryz.ntmps49
  go_wp2_with fail
  with_reducible refine hput.mono ?_
  rintro e w1 ⟨⟨b, rfl, hb⟩, hB1⟩
  obtain ⟨Ab, cb, rfl⟩ := hb.form
  have h1 := H.out.fr (Fr.of_below hB1) (by have := H.out.lt; omega)
  have k1 := HK.out.fr (Fr.of_below hB1) (by have := HK.out.blk.lt; omega)
  have o1 := HO.out.keep hB1
  have f1 : Fr (fun k => k = D ∨ k = kb ∨ out.ownBlock = some k) w w1 := (Fr.of_below hB1).mono (fun k hk h => absurd h (by omega))
  have q76 := k1.co
  have z76 := k1.blk.frozen 76
  have k2 := (k1.setC 12)
  have q77 : (w1.setCell ⟨kb, 76, none⟩ (.int .i64 12)).cell? ⟨kb, 77, none⟩ = some (.bool x.ch) := k2.ch
  have z77 := k2.blk.frozen 77
  have k3 := k2.setH false
  have fs : Fr (fun k => k = kb) w1 ((w1.setCell ⟨kb, 76, none⟩ (.int .i64 12)).setCell ⟨kb, 77, none⟩ (.bool false)) := ((Fr.refl (fun k => k = kb) w1).setCell (p := ⟨kb, 76, none⟩) (fun _ => rfl) _).setCell (p := ⟨kb, 77, none⟩) (fun _ => rfl) _
  have hok := own_ne o1.own k1.blk (by decide)
  have hoD := own_ne o1.own h1 (by decide)
  have h3 := h1.fr fs (show ¬ _ = _ from hDk)
  have o3 := o1.fr fs (fun k hk e => hok (e ▸ hk))
  have f3 := f1.trans fs (fun k hk e => .inr (.inl e))
  have hs3 := f3.size
  have q77' : w1.cell? ⟨kb, 77, none⟩ = some (.bool x.ch) := k1.ch
  have z77' := k1.blk.frozen 77
  obtain ⟨w3, hw3⟩ : ∃ X, (w1.setCell ⟨kb, 76, none⟩ (.int .i64 12)).setCell ⟨kb, 77, none⟩ (.bool false) = X := ⟨_, rfl⟩
  rw [hw3] at k3 h3 o3 f3 hs3
  obtain ⟨Ao, No, co, rfl, hNo⟩ := o3.formN
  obtain ⟨S0, hS0⟩ : ∃ S0 : World → Prop, (fun X => X.cell? ⟨D, 11, none⟩ = some (.slice Ao No co) ∧ X.cell? ⟨kb, 73, none⟩ = some (.int .i64 s) ∧ X.cell? ⟨kb, 75, none⟩ = some (.int .i64 (x.r : Int)) ∧ X.cell? ⟨D, 0, none⟩ = some (.int .i64 cl) ∧ X.cell? ⟨kb, 74, none⟩ = some (.int .i64 nu)) = S0 := ⟨_, rfl⟩
  have hSS : ∀ X, Below w3.heap.size w3 X → S0 X := fun X hX => by
    have hh := h3.fr (Fr.of_below hX) (by have := h3.lt; omega)
    have hq := k3.fr (Fr.of_below hX) (by have := k3.blk.lt; omega)
    rw [← hS0]
    exact ⟨hh.cell 11, hq.sh, hq.re, hh.cell 0, hq.nu⟩
  -- the request
  have hbd := fun X => bdReq s (x.r : Int) cl nu Ab F.length cb X
  obtain ⟨rq, hrq⟩ : ∃ r : List Value, [.int .i64 s, .int .i64 (x.r : Int), .int .i64 cl, .int .i64 nu, .slice Ab F.length cb] = r := ⟨_, rfl⟩
  have hrq2 : (#[.int .i64 s, .int .i64 (x.r : Int), .int .i64 cl, .int .i64 nu, .slice Ab F.length cb] : Array Value) = rq.toArray := by rw [← hrq]
  simp only [hrq2] at hbd
  have hrl : rq.length = 5 := by rw [← hrq]; rfl
  have hr1 : ∀ v ∈ rq, v.oneCell' = true := by rw [← hrq]; simp [Value.oneCell']
  have hri : ReqIs rq (s, (x.r : Int), cl, nu) := ⟨Ab, F.length, cb, hL, hrq.symm⟩
  have hbs := BSs_one (P := Tryz.prog) uReqS iReqZ (by omega) (by omega) w3.drew (.agg rq.toArray) (by simp [Value.cells, hrl])
  simp only [Value.cells] at hbs
  have o3d : OwnR 41 5 B w3.drew (.slice Ao No co) R := o3.fr (Fr.refl (fun _ => False) w3).drew (fun _ _ => id)
  have hRQ := HR.out.1
  obtain ⟨v4, w4, hap, o4, f4, ft4⟩ := appR_one (P := Tryz.prog) (ty := 35) uReqS iReqR (by omega) (by omega) o3d rq hrl hr1 (by omega) (by simp; omega)
  obtain ⟨A4, N4, c4, rfl, hN4⟩ := o4.formN
  have h4 := (h3.drew).fr f4 (fun e => own_ne o3d.own h3.drew (by decide) e)
  have k4 : IsTask w4 kb cv s nu ⟨x.r, 12, false⟩ post := ⟨(k3.blk.drew).fr f4 (fun e => own_ne o3d.own k3.blk.drew (by decide) e), k3.len⟩
  have q4 : w4.cell? ⟨D, 11, none⟩ = some (.slice Ao No co) := h4.cell 11
  have z4 := h4.frozen 11
  have h5 : Blk (w4.setCell ⟨D, 11, none⟩ (.slice A4 N4 c4)) D 97 (drvV cl n k A1 c1 A2 c2 t first last num oc (.slice A4 N4 c4)) := by simpa [drvV] using h4.set_ 11 (.slice A4 N4 c4)
  have fs5 : Fr (fun k => k = D) w4 (w4.setCell ⟨D, 11, none⟩ (.slice A4 N4 c4)) := (Fr.refl (fun k => k = D) w4).setCell (p := ⟨D, 11, none⟩) (fun _ => rfl) _
  have k5 := k4.fr fs5 (show ¬ _ = _ from fun e => hDk e.symm)
  have o5 := o4.fr fs5 (fun k hk e => own_ne o4.own h4 (by decide) (e ▸ hk))
  have f5 := ((f3.drew).trans f4 (fun k hk e => .inr (.inr e))).trans fs5 (fun k hk e => .inl e)
  have hR5 := HR.out.snoc hri
  have ft5 : Foot w (.slice Ao No co) (.slice A4 N4 c4) := fun j hj => by
    rcases ft4 j hj with e | e
    · exact .inl e
    · right; simp at e; omega
  have hF3 := HO.out
  have hS9 : S0 (w3.drew.alloc (.cells rq.toArray 41)) := hSS _ ((Below.refl _ w3).drew.alloc (Nat.le_refl _) _)
  have hS8 : S0 w3.drew := hSS _ (Below.refl _ w3).drew
  obtain ⟨ra, hra⟩ : ∃ x, rq.toArray = x := ⟨_, rfl⟩
  rw [hra] at hbs hap hS9
  have hap2 : (APs #[35, 35] 35 #[.slice Ao No co, .slice (some ⟨w3.heap.size, 0, none⟩) 1 1]).run Tryz.prog (w3.alloc (.cells ra 41)).drew = .ok (.slice A4 N4 c4) w4 := hap
  have hS92 : S0 (w3.alloc (.cells ra 41)).drew := hS9
  simp only [hra] at hbd
  have HW3 := Lib.hid hw3
  have HSE := Lib.hid hS0
  have HS9 := Lib.hid hS92
  have HS8 := Lib.hid hS8
  have H5 := Lib.hid h5
  have K5 := Lib.hid k5
  have O5 := Lib.hid o5
  have F5 := Lib.hid f5
  have FT5 := Lib.hid ft5
  have HR5 := Lib.hid hR5
  clear hw3 hS0 hS92 hS8 h5 k5 o5 f5 ft5 hR5 hb hB1 h1 k1 o1 f1 k2 k3 fs hok hoD h3 o3 f3 hs3 hNo hSS hrq hrq2 hrl hr1 hri o3d hRQ o4 f4 ft4 hN4 h4 k4 fs5 hF3 hra hap hS9 q77 z77 hld hput
  go_upto_region 2 with fail
  rw [HW3.out]
  clear q76 z76 q77' z77'
  refine wp_txO [(0, 3), (1, 3), (2, 3), (3, 3), (5, 3), (6, 3), (7, 3), (9, 3), (10, 3), (11, 3), (13, 3), (14, 3), (15, 3), (17, 3), (18, 3), (19, 3), (21, 3), (4, 0), (8, 0), (12, 0), (16, 0), (20, 0), (22, 3), (23, 1), (24, 2), (25, 3), (26, 3), (27, 2)] S0 (by kernel_rfl) (by kernel_rfl) (by kernel_rfl) (by kernel_rfl) HS8.out ?_
  iterate 17 (with_reducible refine wpTxO_evN (o := ?_) (v := ?_) (a' := ?_) (by with_unfolding_all rfl) (by with_unfolding_all rfl) (fun W' => ?_) ?_ ?_; rotate_left 2; (focus (go_simp <;> with_reducible rfl)); focus (go_simp <;> with_reducible rfl))
  iterate 5 (with_reducible refine wpTxO_takeN (o := ?_) (v := ?_) (a' := ?_) (by with_unfolding_all rfl) (by with_unfolding_all rfl) (fun W' hS => ?_) ?_ ?_; rotate_left 2; (focus (rw [← HSE.out] at hS; obtain ⟨t1, t2, t3, t4, t5⟩ := hS; go_simp <;> with_reducible rfl)); focus (go_simp <;> with_reducible rfl))
  iterate 1 (with_reducible refine wpTxO_evN (o := ?_) (v := ?_) (a' := ?_) (by with_unfolding_all rfl) (by with_unfolding_all rfl) (fun W' => ?_) ?_ ?_; rotate_left 2; (focus (go_simp <;> with_reducible rfl)); focus (go_simp <;> with_reducible rfl))
  with_reducible refine wpTxO_want (o := ?_) (by with_unfolding_all rfl) (by with_unfolding_all rfl) (fun K hK => ?_)
  try simp only [List.getElem_toArray, List.getElem_cons_succ, List.getElem_cons_zero]
  go_simp
  with_reducible refine hK _ _ (HS9.out) ?_
  clear hK K
  with_reducible refine wpTxO_last (o := ?_) (by with_unfolding_all rfl) (by with_unfolding_all rfl) (fun K hK => ?_)
  try simp only [List.getElem_toArray, List.getElem_cons_succ, List.getElem_cons_zero]
  go_simp
  with_reducible refine hK _ _ ?_
  clear hK K
  iterate 2 (with_reducible refine wpTxO_evN (o := ?_) (v := ?_) (a' := ?_) (by with_unfolding_all rfl) (by with_unfolding_all rfl) (fun W' => ?_) ?_ ?_; rotate_left 2; (focus (go_simp <;> with_reducible rfl)); focus (go_simp <;> with_reducible rfl))
  with_reducible refine wpTxO_last (o := ?_) (by with_unfolding_all rfl) (by with_unfolding_all rfl) (fun K hK => ?_)
  try simp only [List.getElem_toArray, List.getElem_cons_succ, List.getElem_cons_zero]
  go_simp
  with_reducible refine hK _ _ ?_
  clear hK K
  with_reducible refine wpTxO_nil ?_
  rw [noPan_normal]
  go_end0
  exact ⟨rfl, _, _, H5.out, O5.out, HR5.out, K5.out, F5.out, FT5.out⟩
end Go.Proofs.YtdkanehjahpehaaGreatDoor
end
