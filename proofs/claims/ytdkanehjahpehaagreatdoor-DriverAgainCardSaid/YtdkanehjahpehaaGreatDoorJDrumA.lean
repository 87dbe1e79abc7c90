/-
  General words for the walks: a frame over a set of blocks, blocks known whole, parts of rows.
  The drum's small functions: is, burns, On, Len, Fuse, Fail, New.
  The drum, plainly: what is sure, what waits, the fuse, the power. No program in sight.
  The drum in memory; Sync.
  The drum's land.
  The drum's Start.
  The drum's Write.
  slices.Backward over the writes that wait; the drum's now.
-/
import Derived.WalkKit
import Derived.WalkSpells
import Derived.WalkLawsBesides
import Derived.Lib.Hide
import Derived.StillTailTactics
import Derived.Deep.QuietTactic
import Derived.BigQuiet
import Derived.Deep.Draws
import Derived.Maps.AppendAt
import Derived.Test.YtdkanehjahpehaaGreatDoorChecked
import Derived.RangeFuncNested
import Derived.RangeFuncBound
import Derived.RangeFuncCalls
import Derived.RangeFuncLeaves
import Derived.Shelf.Abstract
import Derived.Shelf.RegionOpen
import Derived.OwnWalkIn
import Derived.TacticsInMore
import Derived.LoopNIn
import Derived.LoopIn

section
section
namespace Go.Proofs.YtdkanehjahpehaaGreatDoor
open Go.RowKit

/-- w' is w with new blocks; of the old blocks only those in F may have turned. -/
structure Fr (F : Nat → Prop) (w w' : World) : Prop where
  os : w'.os = w.os
  tape : w'.tape = w.tape
  output : w'.output = w.output
  size : w.heap.size ≤ w'.heap.size
  block : ∀ k, k < w.heap.size → ¬ F k → w'.heap[k]? = w.heap[k]?

section
variable {F G : Nat → Prop} {w w1 w2 : World}
theorem Fr.refl (F : Nat → Prop) (w : World) : Fr F w w := ⟨rfl, rfl, rfl, Nat.le_refl _, fun _ _ _ => rfl⟩
theorem Fr.trans (h : Fr F w w1) (h' : Fr G w1 w2) (hG : ∀ k, k < w.heap.size → G k → F k) : Fr F w w2 :=
  ⟨h'.os.trans h.os, h'.tape.trans h.tape, h'.output.trans h.output, Nat.le_trans h.size h'.size,
   fun k hk hf => (h'.block k (Nat.lt_of_lt_of_le hk h.size) (fun g => hf (hG k hk g))).trans (h.block k hk hf)⟩
theorem Fr.mono (h : Fr F w w1) (hG : ∀ k, k < w.heap.size → F k → G k) : Fr G w w1 :=
  ⟨h.os, h.tape, h.output, h.size, fun k hk hf => h.block k hk fun f => hf (hG k hk f)⟩
theorem Fr.alloc (h : Fr F w w1) (o : Obj) : Fr F w (w1.alloc o) :=
  h.trans (G := fun _ => False) ⟨rfl, rfl, rfl, by simp, fun k hk _ => Below.heap_alloc _ _ _ hk⟩ (fun _ _ f => f.elim)
theorem Fr.drew (h : Fr F w w1) : Fr F w w1.drew := ⟨h.os, h.tape, h.output, h.size, h.block⟩
theorem Fr.drewN (h : Fr F w w1) (n : Nat) : Fr F w (w1.drewN n) := ⟨h.os, h.tape, h.output, h.size, h.block⟩
theorem Fr.setCell (h : Fr F w w1) {p : Addr} (hp : p.block < w.heap.size → F p.block) (u : Value) : Fr F w (w1.setCell p u) :=
  h.trans (G := fun k => k = p.block) ⟨rfl, rfl, rfl, by simp, fun k hk hf => Below.heap_setCell _ _ _ _ hf⟩ (fun k hk e => by subst e; exact hp hk)
theorem Fr.setRow (h : Fr F w w1) {g : Nat} (hp : g < w.heap.size → F g) (cs : Array Value) : Fr F w (w1.setRow g cs) :=
  h.trans (G := fun k => k = g) ⟨rfl, rfl, rfl, by simp, fun k hk hf => setRow_other _ _ _ _ hf⟩ (fun k hk e => by subst e; exact hp hk)
theorem Fr.grown (h : Fr F w w1) {row : Option Nat} (hg : w1.grownBy w2 row) (hr : ∀ k, k < w.heap.size → row = some k → F k) : Fr F w w2 :=
  h.trans (G := fun k => row = some k) ⟨hg.os, hg.tape, hg.output, hg.size, fun k hk hf => hg.block k hk fun e => hf e.symm⟩ (fun k hk e => hr k hk e)
theorem Fr.below {B : Nat} (h : Fr F w w1) (hB : B ≤ w.heap.size) (hF : ∀ k, k < B → ¬ F k) : Below B w w1 :=
  ⟨h.os, h.tape, h.output, h.size, fun k hk => h.block k (Nat.lt_of_lt_of_le hk hB) (hF k hk)⟩
theorem Fr.of_below {B : Nat} (h : Below B w w1) : Fr (fun k => B ≤ k) w w1 :=
  ⟨h.os, h.tape, h.output, h.size, fun k _ hf => h.block k (by omega)⟩
theorem Fr.cell (h : Fr F w w1) {p : Addr} (hp : p.block < w.heap.size) (hf : ¬ F p.block) : w1.cell? p = w.cell? p := World.cell?_of_block (h.block _ hp hf)
end

/-- Block g is just the cells cs of element type t, none frozen. -/
def Blk (w : World) (g : Nat) (t : TypeId) (cs : Array Value) : Prop := w.heap[g]? = some (.cells cs t (0, 0))

section
variable {w w' : World} {g : Nat} {t : TypeId} {cs : Array Value}
theorem Blk.lt (h : Blk w g t cs) : g < w.heap.size := (Array.getElem?_eq_some_iff.1 h).1
theorem Blk.cell (h : Blk w g t cs) (i : Nat) : w.cell? ⟨g, i, none⟩ = cs[i]? := cell_of_row w g i cs t (0, 0) h
theorem Blk.frozen (h : Blk w g t cs) (i : Nat) : w.frozen? ⟨g, i, none⟩ = false := frozen_of_row w g i cs t h
theorem Blk.new (w : World) (t : TypeId) (cs : Array Value) : Blk (w.alloc (.cells cs t)) w.heap.size t cs := heap_alloc_new w _
theorem Blk.drew (h : Blk w g t cs) : Blk w.drew g t cs := h
theorem Blk.drewN (h : Blk w g t cs) (n : Nat) : Blk (w.drewN n) g t cs := h
theorem Blk.alloc (h : Blk w g t cs) (o : Obj) : Blk (w.alloc o) g t cs := (Below.heap_alloc w o g h.lt).trans h
theorem Blk.set_ (h : Blk w g t cs) (i : Nat) (u : Value) : Blk (w.setCell ⟨g, i, none⟩ u) g t (cs.setIfInBounds i u) := heap_setCell_same w g i cs t u h
theorem Blk.far (h : Blk w g t cs) {p : Addr} (hp : g ≠ p.block) (u : Value) : Blk (w.setCell p u) g t cs := (Below.heap_setCell w p u g hp).trans h
theorem Blk.row_ (h : Blk w g t cs) (cs' : Array Value) : Blk (w.setRow g cs') g t cs' := setRow_heap w g cs cs' t (0, 0) h
theorem Blk.rowFar (h : Blk w g t cs) {g' : Nat} (hp : g ≠ g') (cs' : Array Value) : Blk (w.setRow g' cs') g t cs := (setRow_other w g' g cs' hp).trans h
theorem Blk.fr {F : Nat → Prop} (h : Blk w g t cs) (hf : Fr F w w') (hn : ¬ F g) : Blk w' g t cs := (hf.block g h.lt hn).trans h
theorem Blk.grown {row : Option Nat} (h : Blk w g t cs) (hb : w.grownBy w' row) (hg : row ≠ some g) : Blk w' g t cs := (hb.block g h.lt (fun e => hg e.symm)).trans h
theorem Blk.ne_ {g' : Nat} {t' : TypeId} {cs' : Array Value} (h : Blk w g t cs) (h' : Blk w g' t' cs') (hne : t ≠ t') : g ≠ g' := by
  rintro rfl
  unfold Blk at h h'
  rw [h] at h'
  injection h' with h'
  injection h' with _ ht
  exact hne ht
theorem Blk.inj {t' : TypeId} {cs' : Array Value} (h : Blk w g t cs) (h' : Blk w g t' cs') : t = t' ∧ cs = cs' := by
  unfold Blk at h h'
  rw [h] at h'
  injection h' with h'
  injection h' with h1 h2
  exact ⟨h2, h1⟩
end

/-! ### Loads and stores of whole arrays and structs: kept shut, answered by facts of one's own -/

/-- A load, kept shut. -/
def LDs (t : TypeId) (v : Value) : Sem Value := Instr.loadAt t v
/-- A store, kept shut. -/
def STs (t : TypeId) (v x : Value) : Sem Unit := Instr.storeAt t v x
/-- A new variable, kept shut. -/
def ALs (t : TypeId) : Sem Value := Instr.alloc t true (.tuple #[])
theorem LDs_of (t : TypeId) (v : Value) : Instr.loadAt t v = LDs t v := rfl
theorem STs_of (t : TypeId) (v x : Value) : Instr.storeAt t v x = STs t v x := rfl
theorem ALs_of (t : TypeId) : Instr.alloc t true (.tuple #[]) = ALs t := rfl

/-- The row cs with xs laid over it from off on. -/
def splice (cs : Array Value) (off : Nat) (xs : List Value) : Array Value := (cs.toList.take off ++ xs ++ cs.toList.drop (off + xs.length)).toArray
theorem size_splice (cs : Array Value) (off : Nat) (xs : List Value) (h : off + xs.length ≤ cs.size) : (splice cs off xs).size = cs.size := by
  simp [splice]; omega

def isAggD : TypeDesc → Bool | .struct _ | .array _ _ => true | _ => false

theorem LDs_part {P : Program} (w : World) (t : TypeId) (d : TypeDesc) (n : Nat) (hu : P.underlying t = some d) (hd : isAggD d = true) (hi : (P.info? t).map (·.size) = some n)
    (g off : Nat) (xs : List Value) (hl : xs.length = n) (hc : ∀ j v, xs[j]? = some v → w.cell? ⟨g, off + j, none⟩ = some v) :
    (LDs t (.pointer (some ⟨g, off, none⟩))).run P w = .ok (.agg xs.toArray) w := by
  obtain ⟨i, hq, hs⟩ := Option.map_eq_some_iff.1 hi
  have hagg : (isAgg t).run P w = .ok true w := by
    unfold isAgg
    rw [Sem.run_bind, run_underlying hu w]
    cases d <;> simp_all [isAggD]
  have hcells := run_loadCells_list (P := P) w ⟨g, off, none⟩ xs (fun j v hv => by
    have hadd : (⟨g, off, none⟩ : Addr).add j = ⟨g, off + j, none⟩ := by unfold Addr.add; split <;> simp_all
    rw [hadd]; exact hc j v hv)
  rw [hl] at hcells
  simp [LDs, Instr.loadAt, Instr.sureAddr, loadVar, Sem.run_bind, hagg, sizeOf, typeInfo, hq, hs, hcells]

theorem LDs_blk {P : Program} {w : World} {t : TypeId} {d : TypeDesc} {n : Nat} (hu : P.underlying t = some d) (hd : isAggD d = true) (hi : (P.info? t).map (·.size) = some n)
    {g off : Nat} {e : TypeId} {cs : Array Value} (hb : Blk w g e cs) (xs : List Value) (hl : xs.length = n) (hx : (cs.toList.drop off).take n = xs) :
    (LDs t (.pointer (some ⟨g, off, none⟩))).run P w = .ok (.agg xs.toArray) w :=
  LDs_part w t d n hu hd hi g off xs hl (fun j v hv => by
    rw [hb.cell, ← Array.getElem?_toList]
    rw [← hx, List.getElem?_take, List.getElem?_drop] at hv
    split at hv
    · exact hv
    · cases hv)

theorem STs_blk {P : Program} {w : World} {t : TypeId} {n : Nat} (hi : (P.info? t).map (·.size) = some n)
    {g off : Nat} {e : TypeId} {cs : Array Value} (hb : Blk w g e cs) (xs : List Value) (hl : xs.length = n) (ho : off + n ≤ cs.size) (h1 : ∀ v ∈ xs, v.oneCell' = true) :
    (STs t (.pointer (some ⟨g, off, none⟩)) (.agg xs.toArray)).run P w = .ok () (w.setRow g (splice cs off xs)) := by
  obtain ⟨i, hq, hs⟩ := Option.map_eq_some_iff.1 hi
  have hst := run_storeCells_at P g off e xs 0 cs w hb (by simpa [hl] using ho) h1
  simp only [Nat.add_zero] at hst
  simp [STs, Instr.storeAt, Instr.sureAddr, storeVar, Sem.run_bind, sizeOf, typeInfo, hq, hs, Value.cells, hl, hst, splice]

theorem setRow_alloc_new (w : World) (c cs : Array Value) (t : TypeId) : (w.alloc (.cells c t)).setRow w.heap.size cs = w.alloc (.cells cs t) := by
  simp only [World.setRow, World.alloc]
  congr 1
  apply Array.ext_getElem?
  intro i
  simp only [Array.getElem?_modify, Array.getElem?_push]
  by_cases h : i = w.heap.size
  · subst h; simp
  · simp [h, Ne.symm h]

theorem splice_whole (cs : Array Value) (xs : List Value) (h : xs.length = cs.size) : splice cs 0 xs = xs.toArray := by
  simp [splice, h]

/-- A store of a whole new variable. -/
theorem STs_new {P : Program} {t : TypeId} {n : Nat} (hi : (P.info? t).map (·.size) = some n) (w : World) (c : Array Value) (hcs : c.size = n) (xs : List Value) (hl : xs.length = n) (h1 : ∀ v ∈ xs, v.oneCell' = true) :
    (STs t (.pointer (some ⟨w.heap.size, 0, none⟩)) (.agg xs.toArray)).run P (w.alloc (.cells c t)) = .ok () (w.alloc (.cells xs.toArray t)) := by
  rw [STs_blk hi (Blk.new w t c) xs hl (by omega) h1, splice_whole _ _ (by omega), setRow_alloc_new]

theorem ALs_new {P : Program} {t : TypeId} (z : Value) (hi : (P.info? t).bind (·.zero) = some z) (w : World) :
    (ALs t).run P w = .ok (.pointer (some ⟨w.heap.size, 0, none⟩)) (w.alloc (.cells z.cells t)) := by
  obtain ⟨i, hq, hz⟩ := Option.bind_eq_some_iff.1 hi
  simp [ALs, Instr.alloc, zeroValue, typeInfo, hq, hz, newVar, newRow]

/-- Bytes as values. -/
def bys (l : List Int) : List Value := l.map (Value.int .u8)
theorem bys_length (l : List Int) : (bys l).length = l.length := by simp [bys]
theorem bys_one (l : List Int) : ∀ v ∈ bys l, v.oneCell' = true := by
  intro v hv
  obtain ⟨x, _, rfl⟩ := List.mem_map.1 hv
  rfl
theorem bys_get (l : List Int) (j : Nat) : (bys l)[j]? = (l[j]?).map (Value.int .u8) := by simp [bys]
theorem bys_app (l m : List Int) : bys (l ++ m) = bys l ++ bys m := by simp [bys]
theorem bys_take (l : List Int) (n : Nat) : (bys l).take n = bys (l.take n) := by simp [bys, List.map_take]
theorem bys_drop (l : List Int) (n : Nat) : (bys l).drop n = bys (l.drop n) := by simp [bys, List.map_drop]

/-- Part k of rows of one length. -/
theorem flat_drop_take {α : Type} (m : Nat) : ∀ (L : List (List α)) (_ : ∀ s ∈ L, s.length = m) (k : Nat) (hk : k < L.length), (L.flatten.drop (k * m)).take m = L[k]
  | [], _, k, hk => by simp at hk
  | s :: L, h, k, hk => by
    have hs := h s (by simp)
    cases k with
    | zero => simp [hs]
    | succ k =>
      have ih := flat_drop_take m L (fun s hs => h s (by simp [hs])) k (by simpa using hk)
      simp only [List.flatten_cons, List.getElem_cons_succ]
      rw [← ih, show (k + 1) * m = s.length + k * m by rw [hs, Nat.add_mul]; omega, List.drop_append]
      simp [List.drop_eq_nil_of_le (show s.length ≤ s.length + k * m by omega)]
theorem flat_len {α : Type} (m : Nat) : ∀ (L : List (List α)) (_ : ∀ s ∈ L, s.length = m), L.flatten.length = L.length * m
  | [], _ => by simp
  | s :: L, h => by
    have hs := h s (by simp)
    have ih := flat_len m L (fun s hs => h s (by simp [hs]))
    simp only [List.flatten_cons, List.length_append, List.length_cons, ih, hs, Nat.add_mul]
    omega
theorem flat_splice {α : Type} (m : Nat) : ∀ (L : List (List α)) (_ : ∀ s ∈ L, s.length = m) (k : Nat) (_ : k < L.length) (x : List α) (_ : x.length = m),
    L.flatten.take (k * m) ++ x ++ L.flatten.drop (k * m + m) = (L.set k x).flatten
  | [], _, k, hk, _, _ => by simp at hk
  | s :: L, h, k, hk, x, hx => by
    have hs := h s (by simp)
    cases k with
    | zero => simp [hs]
    | succ k =>
      have ih := flat_splice m L (fun s hs => h s (by simp [hs])) k (by simpa using hk) x hx
      simp only [List.flatten_cons, List.set_cons_succ]
      rw [← ih, show (k + 1) * m = s.length + k * m by rw [hs, Nat.add_mul]; omega, show s.length + k * m + m = s.length + (k * m + m) by omega, List.take_append, List.drop_append]
      simp [List.drop_eq_nil_of_le (show s.length ≤ s.length + (k * m + m) by omega), List.take_of_length_le (show s.length ≤ s.length + k * m by omega)]

/-- A region that draws its order, whose first n operations only read: as 'wp_region_still_tail', the world behind the draw folded. -/
theorem wp_still_tail {P : Program} {id : Nat} {Q : Exit → Act → World → Prop} {a : Act} {w : World} {l : List Oper} (n : Nat) (hm : P.follows .mixedOrders = true) (hB : Region.lexTailB .any l.toArray n = true)
    (h : wpStill P l.toArray w.drew (fun a' => wpList P l.toArray Q (l.drop n) a' w.drew) (l.take n) a) : (Code.region id l.toArray true).wp P Q a w :=
  wp_region_still_tail n hm hB h

/-- Go's copy, kept shut. -/
def CPs (ts : Array TypeId) (t : TypeId) (xs : Array Value) : Sem Value := Builtin.copy_ ts t xs
theorem CPs_of (ts : Array TypeId) (t : TypeId) (xs : Array Value) : Builtin.copy_ ts t xs = CPs ts t xs := rfl
/-- Go's append, kept shut. -/
def APs (ts : Array TypeId) (t : TypeId) (xs : Array Value) : Sem Value := Builtin.append_ ts t xs
theorem APs_of (ts : Array TypeId) (t : TypeId) (xs : Array Value) : Builtin.append_ ts t xs = APs ts t xs := rfl

/-- A copy into a block that is known whole. -/
theorem CPs_blk {P : Program} {w : World} {dT sT ty elem : TypeId} (hu : P.underlying dT = some (.slice elem)) (hs : (P.info? elem).map (·.size) = some 1)
    {g o dLen dCap : Nat} {a : Addr} {sLen sCap : Nat} {cur : Array Value} {t : TypeId} (hg : Blk w g t cur) (cs : List Value) (hn : cs.length = Nat.min sLen dLen)
    (hsrc : ∀ j v, cs[j]? = some v → w.cell? (a.add j) = some v) (hfit : o + cs.length ≤ cur.size) (h1 : ∀ v ∈ cs, v.oneCell' = true) :
    (CPs #[dT, sT] ty #[.slice (some ⟨g, o, none⟩) dLen dCap, .slice (some a) sLen sCap]).run P w = .ok (goInt cs.length) (w.setRow g (splice cur o cs)) :=
  run_copy_row P w dT sT ty elem g o dLen dCap a sLen sCap cur t cs hu hs hg hn hsrc hfit h1

/-- An append onto a row of one's own, whose operands are known: what is known of it. -/
theorem APs_own {P : Program} {w : World} {base : Nat} {t ty e : TypeId} {size bytes : Nat} (ht : P.underlying t = some (.slice e))
    (hi : (P.info? e).map (fun i => (i.zero.map (·.cells.size), i.size, i.bytes)) = some (some size, size, bytes)) (hsz : 0 < size)
    {v : Value} {n : Nat} {xs : List Value} (hown : w.ownsRow base e size v n xs)
    {a : Addr} {m c : Nat} (news : List Value) (hl : news.length = m * size) (hnews : ∀ j u, news[j]? = some u → w.cell? (a.add j) = some u) (h1 : ∀ u ∈ news, u.oneCell' = true)
    (h63 : n + m ≤ maxLen) (hbytes : (n + m) * bytes ≤ 140737488355328) (hbase : base ≤ w.heap.size) :
    ∃ v' w', (APs #[t, t] ty #[v, .slice (some a) m c]).run P w = .ok v' w' ∧ w'.ownsRow base e size v' (n + m) (xs ++ news) ∧ w.grownBy w' v.ownBlock ∧ (v'.ownBlock = v.ownBlock ∨ v'.ownBlock = some w.heap.size) := by
  obtain ⟨i, hq, hh⟩ := Option.map_eq_some_iff.1 hi
  simp only [Prod.mk.injEq] at hh
  obtain ⟨hz, hs, hb⟩ := hh
  obtain ⟨z, hz1, hz2⟩ := Option.map_eq_some_iff.1 hz
  obtain ⟨v', w', h2, h3, h4, _, h5⟩ := run_append_own_at (P := P) w base t ty e i z size bytes ht hq hz1 hs hb hz2 hsz v n xs hown a m c news hl hnews h1 h63 hbytes hbase
  exact ⟨v', w', h2, h3, h4, h5⟩

/-- A slice of an array behind a pointer, kept shut. -/
def SLs (t : TypeId) (x : Value) (lo hi mx : Option Value) : Sem Value := Instr.sliceAt t x lo hi mx
theorem SLs_of (t : TypeId) (x : Value) (lo hi mx : Option Value) : Instr.sliceAt t x lo hi mx = SLs t x lo hi mx := rfl

theorem SLs_arr {P : Program} {t e : TypeId} {n : Nat} (hu : P.underlying t = some (.array n e)) (hs : (P.info? e).map (·.size) = some 1) (w : World) (g off l h : Nat) (vl vh : Int) (el : vl = l) (eh : vh = h) (hlh : l ≤ h) (hn : h ≤ n) (hln : l < n) (_hb : n ≤ 1000000000) :
    (SLs t (.pointer (some ⟨g, off, none⟩)) (some (.int .i64 vl)) (some (.int .i64 vh)) none).run P w = .ok (.slice (some ⟨g, off + l, none⟩) (h - l) (n - l)) w := by
  subst el eh
  obtain ⟨i, hq, hi⟩ := Option.map_eq_some_iff.1 hs
  have e1 : ¬ ((h : Int) < 0 ∨ (n : Int) < (h : Int)) := by omega
  have e2 : ¬ ((l : Int) < 0 ∨ (h : Int) < (l : Int)) := by omega
  have hadd : (⟨g, off, none⟩ : Addr).add l = ⟨g, off + l, none⟩ := by unfold Addr.add; split <;> simp_all
  have hne : ¬ n = l := by omega
  simp [SLs, Instr.sliceAt, Instr.sureAddr, Instr.sliceBounds, Instr.sliceBound, asIntOf, run_underlying hu, sizeOf, typeInfo, hq, hi, hne, hadd, hlh, hn]
theorem SLs_from {P : Program} {t e : TypeId} {n : Nat} (hu : P.underlying t = some (.array n e)) (hs : (P.info? e).map (·.size) = some 1) (w : World) (g off l : Nat) (vl : Int) (el : vl = l) (hln : l < n) (_hb : n ≤ 1000000000) :
    (SLs t (.pointer (some ⟨g, off, none⟩)) (some (.int .i64 vl)) none none).run P w = .ok (.slice (some ⟨g, off + l, none⟩) (n - l) (n - l)) w := by
  subst el
  obtain ⟨i, hq, hi⟩ := Option.map_eq_some_iff.1 hs
  have hadd : (⟨g, off, none⟩ : Addr).add l = ⟨g, off + l, none⟩ := by unfold Addr.add; split <;> simp_all
  have hne : ¬ n = l := by omega
  have hle : l ≤ n := by omega
  simp [SLs, Instr.sliceAt, Instr.sureAddr, Instr.sliceBounds, Instr.sliceBound, asIntOf, run_underlying hu, sizeOf, typeInfo, hq, hi, hne, hadd, hle]

/-- A struct put together, kept shut. -/
def BDs (t : TypeId) (parts : Array (Nat × Value)) : Sem Value := Instr.build t parts
theorem BDs_of (t : TypeId) (parts : Array (Nat × Value)) : Instr.build t parts = BDs t parts := rfl
/-- A slice put together, kept shut. -/
def BSs (t : TypeId) (n : Nat) (parts : Array (Nat × Value)) : Sem Value := Instr.buildSlice t n parts
theorem BSs_of (t : TypeId) (n : Nat) (parts : Array (Nat × Value)) : Instr.buildSlice t n parts = BSs t n parts := rfl

theorem foldl_splice (off : Nat) : ∀ (xs : List Value) (k : Nat) (cs : Array Value), off + k + xs.length ≤ cs.size →
    (xs.zipIdx k).foldl (fun cs (p : Value × Nat) => cs.setIfInBounds (off + p.2) p.1) cs = splice cs (off + k) xs
  | [], k, cs, _ => by simp [splice]
  | x :: xs, k, cs, h => by
    simp only [List.zipIdx_cons, List.foldl_cons]
    rw [foldl_splice off xs (k + 1) _ (by simp at h ⊢; omega)]
    have e := list_seg_step cs.toList (off + k) x xs (by simp at h ⊢; omega)
    unfold splice
    simpa [Array.toList_setIfInBounds, Nat.add_assoc, Nat.add_comm 1] using e

theorem fill_one (place : Nat → Option (Nat × Nat)) (cells : Array Value) (i off size : Nat) (v : Value) (rest : List (Nat × Value)) (hp : place i = some (off, size)) (hs : v.cells.size = size) (hf : off + size ≤ cells.size) :
    Instr.fill place cells ((i, v) :: rest) = Instr.fill place (splice cells off v.cells.toList) rest := by
  have e := foldl_splice off v.cells.toList 0 cells (by simp [hs]; omega)
  rw [Nat.add_zero] at e
  rw [Instr.fill]
  simp only [hp, hs]
  rw [if_neg (by simp; omega)]
  congr 1
  rw [← e, ← Array.toList_zipIdx, ← Array.foldl_toList]

/-- A struct of two fields, the first of one cell. -/
theorem BDs_two {P : Program} {t : TypeId} {f0 f1 : Field} {m : Nat} (hu : P.underlying t = some (.struct #[f0, f1]))
    (hz : ((P.info? t).bind (·.zero)).map (·.cells.size) = some (1 + m)) (h0 : (P.info? f0.type).map (·.size) = some 1) (h1 : (P.info? f1.type).map (·.size) = some m) (o0 : f0.offset = 0) (o1 : f1.offset = 1)
    (w : World) (v0 v1 : Value) (hv0 : v0.cells.size = 1) (hv1 : v1.cells.size = m) :
    (BDs t #[(0, v0), (1, v1)]).run P w = .ok (.agg (v0.cells ++ v1.cells)) w := by
  refine run_build w t _ _ ?_
  obtain ⟨z, hz1, hz2⟩ := Option.map_eq_some_iff.1 hz
  obtain ⟨i, hq, hz3⟩ := Option.bind_eq_some_iff.1 hz1
  obtain ⟨i0, q0, s0⟩ := Option.map_eq_some_iff.1 h0
  obtain ⟨i1, q1, s1⟩ := Option.map_eq_some_iff.1 h1
  unfold Program.built
  simp only [hq, hu, hz3, List.mapM_cons, List.mapM_nil, q0, q1, s0, s1, o0, o1, Option.map_some, Option.bind_eq_bind, Option.bind_some, Option.pure_def]
  rw [fill_one _ _ 0 0 1 v0 _ (by simp) hv0 (by omega), fill_one _ _ 1 1 m v1 _ (by simp) hv1 (by rw [size_splice _ _ _ (by simp [hv0]; omega)]; omega)]
  simp only [Instr.fill, Option.some.injEq]
  apply Array.ext'
  have l0 : v0.cells.toList.length = 1 := by simpa using hv0
  have l1 : v1.cells.toList.length = m := by simpa using hv1
  simp [splice, l0, l1, List.drop_append, hz2]
  omega

/-- A slice of one element. -/
theorem BSs_one {P : Program} {t e : TypeId} {size : Nat} (hu : P.underlying t = some (.slice e)) (hi : (P.info? e).map (fun i => (i.zero.map (·.cells.size), i.size)) = some (some size, size)) (h0 : 0 < size) (h24 : size ≤ 16777216)
    (w : World) (v : Value) (hv : v.cells.size = size) :
    (BSs t 1 #[(0, v)]).run P w = .ok (.slice (some ⟨w.heap.size, 0, none⟩) 1 1) (w.alloc (.cells v.cells e)) := by
  obtain ⟨i, hq, hh⟩ := Option.map_eq_some_iff.1 hi
  simp only [Prod.mk.injEq] at hh
  obtain ⟨hz, hs⟩ := hh
  obtain ⟨z, hz1, hz2⟩ := Option.map_eq_some_iff.1 hz
  have hfl : Instr.fill (fun i => some (i * size, size)) ((Array.range (1 * size)).map (z.cells[· % z.cells.size]!)) [(0, v)] = some v.cells := by
    rw [fill_one _ _ 0 0 size v _ (by simp) hv (by simp)]
    simp only [Instr.fill, Option.some.injEq]
    rw [splice_whole _ _ (by simp [hv])]
  have hb : ¬ (1 * size > 2 ^ 24) := by simp; omega
  have hz0 : ¬ (1 * size = 0) := by omega
  simp only [Nat.one_mul] at hfl hb hz0
  simp [BSs, Instr.buildSlice, run_underlying hu, sizeOf, typeInfo, zeroValue, hq, hs, hz1, hb, hz0, hfl, newRow]

/-- A slice as an array. -/
theorem run_arrayAt {P : Program} {t e : TypeId} {n : Nat} (hu : P.underlying t = some (.array n e)) (A : Option Addr) (m c : Nat) (h : n ≤ m) (w : World) : (Instr.arrayAt t (.slice A m c)).run P w = .ok (.pointer A) w := by
  have : ¬ m < n := by omega
  simp [Instr.arrayAt, run_underlying hu, this]

end Go.Proofs.YtdkanehjahpehaaGreatDoor
end

section
namespace Go.Proofs.YtdkanehjahpehaaGreatDoor
open Go.RowKit

section
variable {w : World} {p : Nat} {sv wv : Value} {fuse : Int} {off : Bool}
end

theorem made_eq (z : Array Value) (u : Value) (n m : Nat) (hz : z.toList = List.replicate m u) (hm : 0 < m) : (madeCells z n).toList = List.replicate n u := by
  have hzs : z.size = m := by rw [← Array.length_toList, hz]; simp
  unfold madeCells
  apply List.ext_getElem
  · simp
  · intro i h1 h2
    have hi : i % z.size < z.size := Nat.mod_lt _ (by omega)
    simp only [Array.toList_map, List.getElem_map, Array.toList_range, List.getElem_range, List.getElem_replicate]
    rw [getElem!_pos z _ hi]
    have : z.toList[i % z.size]'(by simpa using hi) = u := by simp [hz]
    simpa using this

end Go.Proofs.YtdkanehjahpehaaGreatDoor
end
end

section
section
namespace Go.Proofs.YtdkanehjahpehaaGreatDoor

structure DS where
  sure : List (List Int)
  waits : List (Nat × List Int)
  fuse : Int
  off : Bool

/-- A sector's bytes. -/
def Sec (s : List Int) : Prop := s.length = 64 ∧ ∀ v ∈ s, 0 ≤ v ∧ v ≤ 255

structure DS.Ok (S : DS) : Prop where
  n1 : 1 ≤ S.sure.length
  n2 : S.sure.length ≤ 8192
  sure : ∀ s ∈ S.sure, Sec s
  waits : ∀ x ∈ S.waits, x.1 < S.sure.length ∧ Sec x.2
  f0 : 0 ≤ S.fuse
  f1 : S.fuse ≤ 9223372036854775807

/-- What a fuse is behind one use. -/
def dec (f : Int) : Int := if f = 0 then 0 else f - 1
theorem dec_bd {f : Int} (h0 : 0 ≤ f) (h1 : f ≤ 9223372036854775807) : 0 ≤ dec f ∧ dec f ≤ 9223372036854775807 := by
  unfold dec; split <;> omega

/-- What sector k has, d being what is sure. -/
def lastAt (k : Nat) (d : List Int) : List (Nat × List Int) → List Int
  | [] => d
  | x :: r => lastAt k (if x.1 = k then x.2 else d) r
theorem lastAt_snoc (k : Nat) : ∀ (l : List (Nat × List Int)) (d : List Int) (x : Nat × List Int), lastAt k d (l ++ [x]) = if x.1 = k then x.2 else lastAt k d l
  | [], d, x => rfl
  | y :: l, d, x => by simp only [List.cons_append, lastAt]; exact lastAt_snoc k l _ x
def DS.now (S : DS) (k : Nat) : List Int := lastAt k (S.sure.getD k []) S.waits

/-- The writes gone through. -/
def applyAll (L : List (List Int)) : List (Nat × List Int) → List (List Int)
  | [] => L
  | x :: r => applyAll (L.set x.1 x.2) r
theorem applyAll_snoc : ∀ (l : List (Nat × List Int)) (L : List (List Int)) (x : Nat × List Int), applyAll L (l ++ [x]) = (applyAll L l).set x.1 x.2
  | [], L, x => rfl
  | y :: l, L, x => by simp only [List.cons_append, applyAll]; exact applyAll_snoc l _ x
theorem applyAll_len : ∀ (l : List (Nat × List Int)) (L : List (List Int)), (applyAll L l).length = L.length
  | [], L => rfl
  | y :: l, L => by simp only [applyAll]; rw [applyAll_len l]; simp
theorem applyAll_sec : ∀ (l : List (Nat × List Int)) (L : List (List Int)), (∀ s ∈ L, Sec s) → (∀ x ∈ l, Sec x.2) → ∀ s ∈ applyAll L l, Sec s
  | [], L, h, _ => h
  | y :: l, L, h, h2 => by
    simp only [applyAll]
    refine applyAll_sec l _ (fun s hs => ?_) (fun x hx => h2 x (by simp [hx]))
    rcases List.mem_or_eq_of_mem_set hs with h3 | h3
    · exact h s h3
    · rw [h3]; exact h2 y (by simp)
/-- Behind them a sector has what it had. -/
theorem applyAll_get (k : Nat) : ∀ (l : List (Nat × List Int)) (L : List (List Int)), k < L.length → (applyAll L l).getD k [] = lastAt k (L.getD k []) l
  | [], L, _ => rfl
  | y :: l, L, hk => by
    simp only [applyAll, lastAt]
    rw [applyAll_get k l (L.set y.1 y.2) (by simpa using hk)]
    congr 1
    by_cases h : y.1 = k
    · subst h; simp [List.getD, hk]
    · simp [List.getD, h, List.getElem?_set_ne]

/-- Which words of b land on a. -/
def landW (a b : List Int) (mask : Nat) : List Int := (List.range 64).map fun j => if mask / 2 ^ (j / 8) % 2 = 1 then b.getD j 0 else a.getD j 0

/-- The k-th mask. -/
def maskAt (M : List Int) (k : Nat) : Nat := if k < M.length then (M.getD k 0).toNat else 255

/-- The writes gone through when the power is on again, from the k-th on. -/
def landAll (M : List Int) : Nat → List (List Int) → List (Nat × List Int) → List (List Int)
  | _, L, [] => L
  | k, L, x :: r => landAll M (k + 1) (L.set x.1 (landW (L.getD x.1 []) x.2 (maskAt M k))) r
theorem landAll_snoc (M : List Int) : ∀ (l : List (Nat × List Int)) (k : Nat) (L : List (List Int)) (x : Nat × List Int),
    landAll M k L (l ++ [x]) = (landAll M k L l).set x.1 (landW ((landAll M k L l).getD x.1 []) x.2 (maskAt M (k + l.length)))
  | [], k, L, x => rfl
  | y :: l, k, L, x => by
    simp only [List.cons_append, landAll]
    rw [landAll_snoc M l (k + 1)]
    simp only [List.length_cons]
    rw [show k + 1 + l.length = k + (l.length + 1) by omega]
theorem landAll_len (M : List Int) : ∀ (l : List (Nat × List Int)) (k : Nat) (L : List (List Int)), (landAll M k L l).length = L.length
  | [], _, L => rfl
  | y :: l, k, L => by simp only [landAll]; rw [landAll_len M l]; simp
theorem landW_sec {a b : List Int} (m : Nat) (ha : Sec a) (hb : Sec b) : Sec (landW a b m) := by
  refine ⟨by simp [landW], fun v hv => ?_⟩
  obtain ⟨j, hj, rfl⟩ := List.mem_map.1 hv
  have hj' := List.mem_range.1 hj
  have e1 : a.getD j 0 ∈ a := by
    have : j < a.length := by rw [ha.1]; exact hj'
    simp [List.getD, this]
  have e2 : b.getD j 0 ∈ b := by
    have : j < b.length := by rw [hb.1]; exact hj'
    simp [List.getD, this]
  split
  · exact hb.2 _ e2
  · exact ha.2 _ e1
theorem getD_mem {L : List (List Int)} {k : Nat} (h : k < L.length) : L.getD k [] ∈ L := by simp [List.getD, h]
theorem landAll_sec (M : List Int) : ∀ (l : List (Nat × List Int)) (k : Nat) (L : List (List Int)), (∀ s ∈ L, Sec s) → (∀ x ∈ l, x.1 < L.length ∧ Sec x.2) → ∀ s ∈ landAll M k L l, Sec s
  | [], _, L, h, _ => h
  | y :: l, k, L, h, h2 => by
    simp only [landAll]
    have hy := h2 y (by simp)
    refine landAll_sec M l _ _ (fun s hs => ?_) (fun x hx => by simpa using h2 x (by simp [hx]))
    rcases List.mem_or_eq_of_mem_set hs with h3 | h3
    · exact h s h3
    · rw [h3]; exact landW_sec _ (h _ (getD_mem hy.1)) hy.2
/-- All eight words. -/
theorem landW_all {a b : List Int} (hb : b.length = 64) : landW a b 255 = b := by
  apply List.ext_getElem
  · simp [landW, hb]
  · intro i h1 h2
    have hi : i < 64 := by simpa [landW] using h1
    have hm : 255 / 2 ^ (i / 8) % 2 = 1 := by
      have : i / 8 < 8 := by omega
      rcases (show i / 8 = 0 ∨ i / 8 = 1 ∨ i / 8 = 2 ∨ i / 8 = 3 ∨ i / 8 = 4 ∨ i / 8 = 5 ∨ i / 8 = 6 ∨ i / 8 = 7 by omega) with h | h | h | h | h | h | h | h <;> rw [h]
    simp [landW, hm, List.getD, h2]

/-- Write's answer, and what is behind it. -/
def DS.write (S : DS) (k : Int) (b : List Int) : Int × DS :=
  if S.off then (21, S) else if k < 0 ∨ S.sure.length ≤ k then (5, S) else if b.length ≠ 64 then (1, S)
  else if S.fuse = 1 then (20, { S with fuse := 0, off := true }) else (0, { S with fuse := dec S.fuse, waits := S.waits ++ [(k.toNat, b)] })
/-- Sync's. -/
def DS.sync (S : DS) : Int × DS :=
  if S.off then (21, S) else if S.fuse = 1 then (20, { S with fuse := 0, off := true }) else (0, { S with fuse := dec S.fuse, sure := applyAll S.sure S.waits, waits := [] })
/-- Start's. -/
def DS.start (S : DS) (M : List Int) : DS := { sure := landAll M 0 S.sure S.waits, waits := [], fuse := 0, off := false }
/-- Read's answer. -/
def DS.read (S : DS) (k : Int) : List Int × Int := if S.off then ([], 21) else if k < 0 ∨ S.sure.length ≤ k then ([], 5) else (S.now k.toNat, 0)
/-- A drum at first. -/
def DS.new (n : Nat) : DS := { sure := List.replicate n (List.replicate 64 0), waits := [], fuse := 0, off := false }

theorem DS.new_ok {n : Nat} (h1 : 1 ≤ n) (h2 : n ≤ 8192) : (DS.new n).Ok := by
  refine ⟨by simp [DS.new, h1], by simp [DS.new, h2], ?_, by simp [DS.new], by simp [DS.new], by simp [DS.new]⟩
  intro s hs
  simp [DS.new] at hs
  obtain ⟨_, rfl⟩ := hs
  exact ⟨by simp, fun v hv => by simp at hv; omega⟩
theorem DS.write_ok {S : DS} (h : S.Ok) (k : Int) {b : List Int} (hb : ∀ v ∈ b, 0 ≤ v ∧ v ≤ 255) : (S.write k b).2.Ok := by
  unfold DS.write
  split
  · exact h
  split
  · exact h
  split
  · exact h
  split
  · exact ⟨h.n1, h.n2, h.sure, h.waits, by simp, by simp⟩
  · rename_i h2 h3 _
    refine ⟨h.n1, h.n2, h.sure, fun x hx => ?_, (dec_bd h.f0 h.f1).1, (dec_bd h.f0 h.f1).2⟩
    simp only [List.mem_append, List.mem_singleton] at hx
    rcases hx with hx | rfl
    · exact h.waits x hx
    · exact ⟨by show k.toNat < S.sure.length; omega, by simpa using h3, hb⟩
theorem DS.sync_ok {S : DS} (h : S.Ok) : S.sync.2.Ok := by
  unfold DS.sync
  split
  · exact h
  split
  · exact ⟨h.n1, h.n2, h.sure, h.waits, by simp, by simp⟩
  · exact ⟨by simpa [applyAll_len] using h.n1, by simpa [applyAll_len] using h.n2, applyAll_sec _ _ h.sure (fun x hx => (h.waits x hx).2), by simp, (dec_bd h.f0 h.f1).1, (dec_bd h.f0 h.f1).2⟩
theorem DS.start_ok {S : DS} (h : S.Ok) (M : List Int) : (S.start M).Ok :=
  ⟨by simpa [DS.start, landAll_len] using h.n1, by simpa [DS.start, landAll_len] using h.n2, landAll_sec M _ _ _ h.sure h.waits, by simp [DS.start], by simp [DS.start], by simp [DS.start]⟩
theorem lastAt_sec (k : Nat) : ∀ (l : List (Nat × List Int)) (d : List Int), Sec d → (∀ x ∈ l, Sec x.2) → Sec (lastAt k d l)
  | [], d, h, _ => h
  | y :: l, d, h, h2 => by
    simp only [lastAt]
    refine lastAt_sec k l _ ?_ (fun x hx => h2 x (by simp [hx]))
    split
    · exact h2 y (by simp)
    · exact h
theorem DS.now_sec {S : DS} (h : S.Ok) {k : Nat} (hk : k < S.sure.length) : Sec (S.now k) := lastAt_sec k _ _ (h.sure _ (getD_mem hk)) (fun x hx => (h.waits x hx).2)

theorem lastAt_none (k : Nat) : ∀ (l : List (Nat × List Int)) (d : List Int), (∀ y ∈ l, y.1 ≠ k) → lastAt k d l = d
  | [], _, _ => rfl
  | y :: l, d, h => by
    simp only [lastAt]
    rw [if_neg (h y (by simp))]
    exact lastAt_none k l d (fun z hz => h z (by simp [hz]))
theorem lastAt_at (k : Nat) : ∀ (l : List (Nat × List Int)) (d : List Int) (i : Nat) (hi : i < l.length), l[i].1 = k → (∀ j, (hj : j < l.length) → i < j → l[j].1 ≠ k) → lastAt k d l = l[i].2
  | [], _, i, hi, _, _ => by simp at hi
  | y :: l, d, 0, _, h, hn => by
    simp only [lastAt]
    simp only [List.getElem_cons_zero] at h ⊢
    rw [if_pos h]
    refine lastAt_none k l _ (fun z hz => ?_)
    obtain ⟨j, hj, rfl⟩ := List.getElem_of_mem hz
    exact hn (j + 1) (by simpa using hj) (by omega)
  | y :: l, d, i + 1, hi, h, hn => by
    simp only [lastAt, List.getElem_cons_succ] at h ⊢
    exact lastAt_at k l _ i (by simpa using hi) h (fun j hj hij => hn (j + 1) (by simpa using hj) (by omega))

end Go.Proofs.YtdkanehjahpehaaGreatDoor
end

section
namespace Go.Proofs.YtdkanehjahpehaaGreatDoor
open Go.RowKit
set_option maxRecDepth 100000

/-- A write that waits, as cells. -/
def wrow (x : Nat × List Int) : List Value := .int .i64 (x.1 : Int) :: bys x.2
theorem wrow_len {x : Nat × List Int} (h : x.2.length = 64) : (wrow x).length = 65 := by simp [wrow, bys_length, h]
theorem wrow_one (x : Nat × List Int) : ∀ v ∈ wrow x, v.oneCell' = true := by
  intro v hv
  simp only [wrow, List.mem_cons] at hv
  rcases hv with rfl | hv
  · rfl
  · exact bys_one _ v hv

/-- The drum's own blocks. -/
def DF (p gs : Nat) (wv : Value) (k : Nat) : Prop := k = p ∨ k = gs ∨ wv.ownBlock = some k

section
variable {B : Nat} {w w' : World} {p gs : Nat} {wv : Value} {S : DS}
theorem own_blk {base : Nat} {e : TypeId} {size n : Nat} {v : Value} {xs : List Value} (h : w.ownsRow base e size v n xs) {g : Nat} (hg : v.ownBlock = some g) : ∃ cs, Blk w g e cs ∧ base ≤ g := by
  rcases h.2 with ⟨rfl, _⟩ | ⟨g', cap, cur, rfl, hb, hh, _⟩
  · cases hg
  · simp [Value.ownBlock] at hg
    subst hg
    exact ⟨cur, hh, hb⟩
theorem own_ne {base : Nat} {e t : TypeId} {size n g : Nat} {v : Value} {xs : List Value} {cs : Array Value} (h : w.ownsRow base e size v n xs) (hb : Blk w g t cs) (hne : e ≠ t) : v.ownBlock ≠ some g := by
  intro he
  obtain ⟨cs', hb', _⟩ := own_blk h he
  exact hne (hb'.inj hb).1
theorem own_fr {base : Nat} {e : TypeId} {size n : Nat} {v : Value} {xs : List Value} {F : Nat → Prop} (h : w.ownsRow base e size v n xs) (hf : Fr F w w') (hn : ∀ k, v.ownBlock = some k → ¬ F k) : w'.ownsRow base e size v n xs := by
  refine ⟨h.1, ?_⟩
  rcases h.2 with hn' | ⟨g, cap, cur, rfl, hb, hgg, rest⟩
  · exact .inl hn'
  · exact .inr ⟨g, cap, cur, rfl, hb, (hf.block g (Array.getElem?_eq_some_iff.1 hgg).1 (hn g rfl)).trans hgg, rest⟩
end

theorem own_form {base : Nat} {w : World} {e : TypeId} {size n : Nat} {v : Value} {xs : List Value} (h : w.ownsRow base e size v n xs) : ∃ A cap, v = .slice A n cap := by
  rcases h.2 with ⟨rfl, rfl⟩ | ⟨g, cap, cur, rfl, _⟩
  · exact ⟨_, _, rfl⟩
  · exact ⟨_, _, rfl⟩

/-- A sector laid over what is sure. -/
theorem splice_sec (L : List (List Int)) (hL : ∀ s ∈ L, s.length = 64) (k : Nat) (hk : k < L.length) (b : List Int) (hb : b.length = 64) : splice (bys L.flatten).toArray (k * 64) (bys b) = (bys (L.set k b).flatten).toArray := by
  unfold splice
  rw [bys_length, hb, bys_take, bys_drop, ← bys_app, ← bys_app, flat_splice 64 L hL k hk b hb]

end Go.Proofs.YtdkanehjahpehaaGreatDoor
end
end

section
section
namespace Go.Proofs.YtdkanehjahpehaaGreatDoor
open Go.RowKit
set_option maxRecDepth 100000
attribute [local go_sem ↓] CPs_of SLs_of

theorem i5 : (Tryz.prog.info? 5).map (·.size) = some 1 := by kernel_rfl

/-- The first k words have landed. -/
def landK (a b : List Int) (mask k : Nat) : List Int := (List.range 64).map fun j => if j / 8 < k ∧ mask / 2 ^ (j / 8) % 2 = 1 then b.getD j 0 else a.getD j 0
theorem landK_len (a b : List Int) (m k : Nat) : (landK a b m k).length = 64 := by simp [landK]
theorem landK_zero {a b : List Int} (ha : a.length = 64) (m : Nat) : landK a b m 0 = a := by
  apply List.ext_getElem
  · simp [landK, ha]
  · intro i h1 h2
    simp [landK, List.getD, h2]
theorem landK_all (a b : List Int) (m : Nat) : landK a b m 8 = landW a b m := by
  unfold landK landW
  apply List.map_congr_left
  intro j hj
  have : j / 8 < 8 := by have := List.mem_range.1 hj; omega
  simp [this]
theorem landK_skip {a b : List Int} {m k : Nat} (h : m / 2 ^ k % 2 ≠ 1) : landK a b m (k + 1) = landK a b m k := by
  unfold landK
  apply List.map_congr_left
  intro j hj
  by_cases e : j / 8 = k
  · rw [if_neg (by rw [e]; exact fun h' => h h'.2), if_neg (by omega)]
  · have : (j / 8 < k + 1) ↔ (j / 8 < k) := by omega
    simp only [this]
theorem landK_take {a b : List Int} {m k : Nat} (hb : b.length = 64) (hk : k < 8) (h : m / 2 ^ k % 2 = 1) :
    (landK a b m k).take (k * 8) ++ (b.drop (k * 8)).take 8 ++ (landK a b m k).drop (k * 8 + 8) = landK a b m (k + 1) := by
  have hl := landK_len a b m k
  apply List.ext_getElem
  · simp [landK_len, hb]; omega
  · intro i h1 h2
    have hi : i < 64 := by rw [landK_len] at h2; exact h2
    by_cases c1 : i < k * 8
    · rw [List.getElem_append_left (by simp [hl, hb]; omega), List.getElem_append_left (by simp [hl]; omega)]
      have e : i / 8 < k := by omega
      have e' : i / 8 < k + 1 := by omega
      simp [landK, e, e']
    · by_cases c2 : i < k * 8 + 8
      · rw [List.getElem_append_left (by simp [hl, hb]; omega), List.getElem_append_right (by simp [hl]; omega)]
        have e : i / 8 = k := by omega
        have hm : min (k * 8) 64 = k * 8 := by omega
        simp only [List.getElem_take, List.getElem_drop, List.length_take, hl, hm]
        have e2 : k * 8 + (i - k * 8) = i := by omega
        simp only [e2]
        simp [landK, e, h, List.getD, hb, hi]
      · rw [List.getElem_append_right (by simp [hl, hb]; omega)]
        have e : ¬ i / 8 < k := by omega
        have e' : ¬ i / 8 < k + 1 := by omega
        have hm : min (k * 8) 64 = k * 8 := by omega
        have hm2 : min 8 (64 - k * 8) = 8 := by omega
        simp only [List.getElem_drop, List.length_append, List.length_take, List.length_drop, hl, hb, hm, hm2]
        have e2 : k * 8 + 8 + (i - (k * 8 + 8)) = i := by omega
        simp only [e2]
        simp [landK, e, e']
/-- Words laid into one of the sectors. -/
theorem splice_in (L : List (List Int)) (hL : ∀ s ∈ L, s.length = 64) (k o : Nat) (hk : k < L.length) (b : List Int) (hb : o + b.length ≤ 64) :
    splice (bys L.flatten).toArray (k * 64 + o) (bys b) = (bys (L.set k (L[k].take o ++ b ++ L[k].drop (o + b.length))).flatten).toArray := by
  have hs : L[k].length = 64 := hL _ (List.getElem_mem _)
  have h1 := flat_splice 64 L hL k hk (L[k].take o ++ b ++ L[k].drop (o + b.length)) (by simp [hs]; omega)
  have h2 := flat_splice 64 L hL k hk L[k] hs
  rw [List.set_getElem_self] at h2
  have hlen := flat_len 64 L hL
  have hkl : k * 64 + 64 ≤ L.length * 64 := by
    have : (k + 1) * 64 ≤ L.length * 64 := Nat.mul_le_mul_right _ hk
    omega
  rw [← h1]
  unfold splice
  rw [bys_length, bys_take, bys_drop, ← bys_app, ← bys_app]
  congr 2
  have ht : (L.flatten.take (k * 64)).length = k * 64 := by simp [hlen]; omega
  generalize hA : L.flatten.take (k * 64) = A at *
  generalize hC : L.flatten.drop (k * 64 + 64) = C at *
  rw [← h2]
  have e1 : (A ++ L[k] ++ C).take (k * 64 + o) = A ++ L[k].take o := by
    rw [List.append_assoc, List.take_append, ht, List.take_of_length_le (by omega), List.take_append]
    simp [hs]
    omega
  have e2 : (A ++ L[k] ++ C).drop (k * 64 + o + b.length) = L[k].drop (o + b.length) ++ C := by
    rw [List.append_assoc, List.drop_append, ht, List.drop_eq_nil_of_le (by omega), List.drop_append, hs]
    have : k * 64 + o + b.length - k * 64 = o + b.length := by omega
    rw [this]
    have : o + b.length - 64 = 0 := by omega
    simp [this]
  rw [e1, e2]
  simp

theorem and_one_u8 : ∀ v : Fin 256, bits .and .u8 (v.val : Int) 1 = ((v.val % 2 : Nat) : Int) := by decide +kernel
theorem bit_u8 (m k : Nat) (hm : m ≤ 255) : bits .and .u8 ((m : Int) / 2 ^ k) 1 = ((m / 2 ^ k % 2 : Nat) : Int) := by
  have h1 : ((m : Int) / 2 ^ k) = ((m / 2 ^ k : Nat) : Int) := by simp
  have h2 : m / 2 ^ k < 256 := Nat.lt_of_le_of_lt (Nat.div_le_self _ _) (by omega)
  rw [h1]
  exact and_one_u8 ⟨m / 2 ^ k, h2⟩

end Go.Proofs.YtdkanehjahpehaaGreatDoor
end

section
namespace Go.Proofs.YtdkanehjahpehaaGreatDoor
open Go.RowKit
set_option maxRecDepth 100000
/-- The slice at A holds these bytes. -/
structure Byt (w : World) (A : Option Addr) (l : List Int) : Prop where
  cell : 0 < l.length → ∃ g off, A = some ⟨g, off, none⟩ ∧ g < w.heap.size ∧ ∀ j x, l[j]? = some x → w.cell? ⟨g, off + j, none⟩ = some (.int .u8 x)
  bd : ∀ x ∈ l, 0 ≤ x ∧ x ≤ 255
theorem Byt.fr {w w' : World} {A : Option Addr} {l : List Int} {F : Nat → Prop} (h : Byt w A l) (hf : Fr F w w') (hn : ∀ a, A = some a → 0 < l.length → ¬ F a.block) : Byt w' A l :=
  ⟨fun h0 => by
    obtain ⟨g, off, rfl, hg, hc⟩ := h.cell h0
    exact ⟨g, off, rfl, Nat.lt_of_lt_of_le hg hf.size, fun j x hx => (hf.cell (p := ⟨g, off + j, none⟩) hg (hn ⟨g, off, none⟩ rfl h0)).trans (hc j x hx)⟩, h.bd⟩
theorem Byt.at_ {w : World} {A : Option Addr} {l : List Int} (h : Byt w A l) {i : Nat} (hi : i < l.length) : ∃ g off, A = some ⟨g, off, none⟩ ∧ g < w.heap.size ∧ w.cell? ⟨g, off + i, none⟩ = some (.int .u8 l[i]) := by
  obtain ⟨g, off, e, hg, hc⟩ := h.cell (by omega)
  exact ⟨g, off, e, hg, hc i _ (List.getElem?_eq_getElem hi)⟩

theorem maskAt_le {M : List Int} (hM : ∀ x ∈ M, 0 ≤ x ∧ x ≤ 255) (i : Nat) : maskAt M i ≤ 255 := by
  unfold maskAt
  split
  · rename_i h
    have := hM (M.getD i 0) (by simp [List.getD, h])
    omega
  · omega

end Go.Proofs.YtdkanehjahpehaaGreatDoor
end

section
namespace Go.Proofs.YtdkanehjahpehaaGreatDoor
open Go.RowKit
set_option maxRecDepth 100000
attribute [local go_sem ↓] CPs_of APs_of BDs_of BSs_of

theorem i3 : (Tryz.prog.info? 3).map (·.size) = some 1 := by kernel_rfl
/-- What may become of the row of what waits. -/
def Foot (w : World) (wv wv' : Value) : Prop := ∀ j, wv'.ownBlock = some j → wv.ownBlock = some j ∨ w.heap.size ≤ j
theorem Foot.refl (w : World) (wv : Value) : Foot w wv wv := fun _ h => .inl h
theorem Foot.nil (w : World) (wv : Value) : Foot w wv (.slice none 0 0) := fun _ h => by cases h

end Go.Proofs.YtdkanehjahpehaaGreatDoor
end
end

section
namespace Go.Proofs.YtdkanehjahpehaaGreatDoor
open Go.RowKit Go.Shelf
set_option maxRecDepth 100000
attribute [local go_sem] Oper.semAt_some
/-- A write, its sector made one of 64 bytes. -/
def nrm (y : Nat × List Int) : Nat × List Int := (y.1, if y.2.length = 64 then y.2 else List.replicate 64 0)
theorem nrm_len (y : Nat × List Int) : (nrm y).2.length = 64 := by
  unfold nrm; dsimp only; split <;> simp_all
theorem nrm_id {y : Nat × List Int} (h : y.2.length = 64) : nrm y = y := by simp [nrm, h]
/-- A round's two values. -/
def encW (x : Nat × (Nat × List Int)) : Array Value := #[.int .i64 (x.1 : Int), .agg (wrow (nrm x.2)).toArray]
/-- What has come when k rounds are over. -/
def backTo (l : List (Nat × List Int)) (k : Nat) : List (Nat × (Nat × List Int)) := (List.range k).map fun j => (l.length - 1 - j, l.getD (l.length - 1 - j) (0, []))
theorem backTo_succ (l : List (Nat × List Int)) (k : Nat) : backTo l (k + 1) = backTo l k ++ [(l.length - 1 - k, l.getD (l.length - 1 - k) (0, []))] := by simp [backTo, List.range_succ]
theorem backTo_len (l : List (Nat × List Int)) (k : Nat) : (backTo l k).length = k := by simp [backTo]

/-- None of those that came is of k: none of the last ones. -/
theorem backTo_mem {l : List (Nat × List Int)} {k i : Nat} (hi : i < l.length) (hk : l.length - k ≤ i) : (i, l[i]) ∈ backTo l k := by
  refine List.mem_map.2 ⟨l.length - 1 - i, List.mem_range.2 (by omega), ?_⟩
  have e : l.length - 1 - (l.length - 1 - i) = i := by omega
  rw [e]
  simp [List.getD, hi]
theorem now_none {S : DS} {k : Nat} (h : ∀ x ∈ backTo S.waits S.waits.length, x.2.1 ≠ k) : S.now k = S.sure.getD k [] := by
  refine lastAt_none k _ _ (fun y hy => ?_)
  obtain ⟨i, hi, rfl⟩ := List.getElem_of_mem hy
  exact h _ (backTo_mem hi (by omega))
theorem now_some {S : DS} {k j : Nat} {q : List (Nat × (Nat × List Int))} {x : Nat × (Nat × List Int)} (hj : j ≤ S.waits.length) (he : q ++ [x] = backTo S.waits j) (hq : ∀ y ∈ q, y.2.1 ≠ k) (hx : x.2.1 = k) : S.now k = x.2.2 ∧ x.2 ∈ S.waits := by
  cases j with
  | zero => simp [backTo] at he
  | succ j =>
    rw [backTo_succ] at he
    obtain ⟨rfl, h2⟩ := List.append_inj' he rfl
    have hlt : S.waits.length - 1 - j < S.waits.length := by omega
    simp only [List.cons.injEq, and_true] at h2
    subst h2
    have e : S.waits.getD (S.waits.length - 1 - j) (0, []) = S.waits[S.waits.length - 1 - j] := by simp [List.getD, hlt]
    simp only [e] at hx ⊢
    refine ⟨lastAt_at k _ _ _ hlt hx (fun i hi hij => ?_), List.getElem_mem _⟩
    exact hq _ (backTo_mem hi (by omega))

theorem Blk.putObj {w : World} {g : Nat} {t : TypeId} {cs : Array Value} (h : Blk w g t cs) {D : Nat} {o : Obj} (hD : w.heap[D]? = some o) (hoc : o.isCells = false) (o' : Obj) : Blk (w.putObj D o') g t cs := by
  refine (World.putObj_heap_other ?_).trans h
  rintro rfl
  rw [show w.heap[_]? = _ from h] at hD
  cases hD
  cases hoc

theorem grownBy_setRow (w : World) (g : Nat) (cs : Array Value) : w.grownBy (w.setRow g cs) (some g) :=
  ⟨rfl, rfl, rfl, by simp, fun k _ hne => setRow_other _ _ _ _ (fun e => hne (by rw [e]))⟩

theorem results_arr {P : Program} {fn : Func} {p : Tmp} {ty : TypeId} (h : fn.results = #[.cell p ty]) (tmps : Array Value) (w : World) (g : Nat) (t : TypeId) (xs : List Value) (d : TypeDesc)
    (hp : tmps.getD p undef = .pointer (some ⟨g, 0, none⟩)) (hg : Blk w g t xs.toArray) (hu : P.underlying ty = some d) (hd : isAggD d = true) (hi : (P.info? ty).map (·.size) = some xs.length) :
    (results fn tmps).run P w = .ok (.agg xs.toArray) w :=
  results_cell_row h tmps w g t xs.toArray (0, 0) d hp hg hu (by cases d <;> simp_all [isAggD]) (by simpa using hi)

end Go.Proofs.YtdkanehjahpehaaGreatDoor
end
