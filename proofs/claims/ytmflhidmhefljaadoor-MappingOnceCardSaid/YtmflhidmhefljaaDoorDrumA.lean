/-
  General words for the walks: a frame over a set of blocks, blocks known whole, parts of rows.
  The drum's small functions: is, burns, On, Len, Fuse, Fail, New.
-/
import Derived.WalkKit
import Derived.WalkSpells
import Derived.WalkLawsBesides
import Derived.Lib.Hide
import Derived.StillTailTactics
import Derived.Deep.QuietTactic
import Derived.BigQuiet
import Derived.Deep.Draws
import Derived.Maps.AppendAt
import Derived.Test.YtmflhidmhefljaaDoorChecked

section
namespace Go.Proofs.YtmflhidmhefljaaDoor
open Go.RowKit

/-- w' is w with new blocks; of the old blocks only those in F may have turned. -/
structure Fr (F : Nat → Prop) (w w' : World) : Prop where
  os : w'.os = w.os
  tape : w'.tape = w.tape
  output : w'.output = w.output
  size : w.heap.size ≤ w'.heap.size
  block : ∀ k, k < w.heap.size → ¬ F k → w'.heap[k]? = w.heap[k]?

section
variable {F G : Nat → Prop} {w w1 w2 : World}
theorem Fr.refl (F : Nat → Prop) (w : World) : Fr F w w := ⟨rfl, rfl, rfl, Nat.le_refl _, fun _ _ _ => rfl⟩
theorem Fr.trans (h : Fr F w w1) (h' : Fr G w1 w2) (hG : ∀ k, k < w.heap.size → G k → F k) : Fr F w w2 :=
  ⟨h'.os.trans h.os, h'.tape.trans h.tape, h'.output.trans h.output, Nat.le_trans h.size h'.size,
   fun k hk hf => (h'.block k (Nat.lt_of_lt_of_le hk h.size) (fun g => hf (hG k hk g))).trans (h.block k hk hf)⟩
theorem Fr.mono (h : Fr F w w1) (hG : ∀ k, k < w.heap.size → F k → G k) : Fr G w w1 :=
  ⟨h.os, h.tape, h.output, h.size, fun k hk hf => h.block k hk fun f => hf (hG k hk f)⟩
theorem Fr.alloc (h : Fr F w w1) (o : Obj) : Fr F w (w1.alloc o) :=
  h.trans (G := fun _ => False) ⟨rfl, rfl, rfl, by simp, fun k hk _ => Below.heap_alloc _ _ _ hk⟩ (fun _ _ f => f.elim)
theorem Fr.drew (h : Fr F w w1) : Fr F w w1.drew := ⟨h.os, h.tape, h.output, h.size, h.block⟩
theorem Fr.drewN (h : Fr F w w1) (n : Nat) : Fr F w (w1.drewN n) := ⟨h.os, h.tape, h.output, h.size, h.block⟩
theorem Fr.setCell (h : Fr F w w1) {p : Addr} (hp : p.block < w.heap.size → F p.block) (u : Value) : Fr F w (w1.setCell p u) :=
  h.trans (G := fun k => k = p.block) ⟨rfl, rfl, rfl, by simp, fun k hk hf => Below.heap_setCell _ _ _ _ hf⟩ (fun k hk e => by subst e; exact hp hk)
theorem Fr.setRow (h : Fr F w w1) {g : Nat} (hp : g < w.heap.size → F g) (cs : Array Value) : Fr F w (w1.setRow g cs) :=
  h.trans (G := fun k => k = g) ⟨rfl, rfl, rfl, by simp, fun k hk hf => setRow_other _ _ _ _ hf⟩ (fun k hk e => by subst e; exact hp hk)
theorem Fr.grown (h : Fr F w w1) {row : Option Nat} (hg : w1.grownBy w2 row) (hr : ∀ k, k < w.heap.size → row = some k → F k) : Fr F w w2 :=
  h.trans (G := fun k => row = some k) ⟨hg.os, hg.tape, hg.output, hg.size, fun k hk hf => hg.block k hk fun e => hf e.symm⟩ (fun k hk e => hr k hk e)
theorem Fr.below {B : Nat} (h : Fr F w w1) (hB : B ≤ w.heap.size) (hF : ∀ k, k < B → ¬ F k) : Below B w w1 :=
  ⟨h.os, h.tape, h.output, h.size, fun k hk => h.block k (Nat.lt_of_lt_of_le hk hB) (hF k hk)⟩
theorem Fr.of_below {B : Nat} (h : Below B w w1) : Fr (fun k => B ≤ k) w w1 :=
  ⟨h.os, h.tape, h.output, h.size, fun k _ hf => h.block k (by omega)⟩
theorem Fr.cell (h : Fr F w w1) {p : Addr} (hp : p.block < w.heap.size) (hf : ¬ F p.block) : w1.cell? p = w.cell? p := World.cell?_of_block (h.block _ hp hf)
end

/-- Block g is just the cells cs of element type t, none frozen. -/
def Blk (w : World) (g : Nat) (t : TypeId) (cs : Array Value) : Prop := w.heap[g]? = some (.cells cs t (0, 0))

section
variable {w w' : World} {g : Nat} {t : TypeId} {cs : Array Value}
theorem Blk.lt (h : Blk w g t cs) : g < w.heap.size := (Array.getElem?_eq_some_iff.1 h).1
theorem Blk.cell (h : Blk w g t cs) (i : Nat) : w.cell? ⟨g, i, none⟩ = cs[i]? := cell_of_row w g i cs t (0, 0) h
theorem Blk.frozen (h : Blk w g t cs) (i : Nat) : w.frozen? ⟨g, i, none⟩ = false := frozen_of_row w g i cs t h
theorem Blk.new (w : World) (t : TypeId) (cs : Array Value) : Blk (w.alloc (.cells cs t)) w.heap.size t cs := heap_alloc_new w _
theorem Blk.drew (h : Blk w g t cs) : Blk w.drew g t cs := h
theorem Blk.drewN (h : Blk w g t cs) (n : Nat) : Blk (w.drewN n) g t cs := h
theorem Blk.alloc (h : Blk w g t cs) (o : Obj) : Blk (w.alloc o) g t cs := (Below.heap_alloc w o g h.lt).trans h
theorem Blk.set_ (h : Blk w g t cs) (i : Nat) (u : Value) : Blk (w.setCell ⟨g, i, none⟩ u) g t (cs.setIfInBounds i u) := heap_setCell_same w g i cs t u h
theorem Blk.far (h : Blk w g t cs) {p : Addr} (hp : g ≠ p.block) (u : Value) : Blk (w.setCell p u) g t cs := (Below.heap_setCell w p u g hp).trans h
theorem Blk.row_ (h : Blk w g t cs) (cs' : Array Value) : Blk (w.setRow g cs') g t cs' := setRow_heap w g cs cs' t (0, 0) h
theorem Blk.rowFar (h : Blk w g t cs) {g' : Nat} (hp : g ≠ g') (cs' : Array Value) : Blk (w.setRow g' cs') g t cs := (setRow_other w g' g cs' hp).trans h
theorem Blk.fr {F : Nat → Prop} (h : Blk w g t cs) (hf : Fr F w w') (hn : ¬ F g) : Blk w' g t cs := (hf.block g h.lt hn).trans h
theorem Blk.grown {row : Option Nat} (h : Blk w g t cs) (hb : w.grownBy w' row) (hg : row ≠ some g) : Blk w' g t cs := (hb.block g h.lt (fun e => hg e.symm)).trans h
theorem Blk.ne_ {g' : Nat} {t' : TypeId} {cs' : Array Value} (h : Blk w g t cs) (h' : Blk w g' t' cs') (hne : t ≠ t') : g ≠ g' := by
  rintro rfl
  unfold Blk at h h'
  rw [h] at h'
  injection h' with h'
  injection h' with _ ht
  exact hne ht
theorem Blk.inj {t' : TypeId} {cs' : Array Value} (h : Blk w g t cs) (h' : Blk w g t' cs') : t = t' ∧ cs = cs' := by
  unfold Blk at h h'
  rw [h] at h'
  injection h' with h'
  injection h' with h1 h2
  exact ⟨h2, h1⟩
end

/-! ### Loads and stores of whole arrays and structs: kept shut, answered by facts of one's own -/

/-- A load, kept shut. -/
def LDs (t : TypeId) (v : Value) : Sem Value := Instr.loadAt t v
/-- A store, kept shut. -/
def STs (t : TypeId) (v x : Value) : Sem Unit := Instr.storeAt t v x
/-- A new variable, kept shut. -/
def ALs (t : TypeId) : Sem Value := Instr.alloc t true (.tuple #[])
theorem LDs_of (t : TypeId) (v : Value) : Instr.loadAt t v = LDs t v := rfl
theorem STs_of (t : TypeId) (v x : Value) : Instr.storeAt t v x = STs t v x := rfl
theorem ALs_of (t : TypeId) : Instr.alloc t true (.tuple #[]) = ALs t := rfl

/-- The row cs with xs laid over it from off on. -/
def splice (cs : Array Value) (off : Nat) (xs : List Value) : Array Value := (cs.toList.take off ++ xs ++ cs.toList.drop (off + xs.length)).toArray
theorem size_splice (cs : Array Value) (off : Nat) (xs : List Value) (h : off + xs.length ≤ cs.size) : (splice cs off xs).size = cs.size := by
  simp [splice]; omega

def isAggD : TypeDesc → Bool | .struct _ | .array _ _ => true | _ => false

theorem LDs_part {P : Program} (w : World) (t : TypeId) (d : TypeDesc) (n : Nat) (hu : P.underlying t = some d) (hd : isAggD d = true) (hi : (P.info? t).map (·.size) = some n)
    (g off : Nat) (xs : List Value) (hl : xs.length = n) (hc : ∀ j v, xs[j]? = some v → w.cell? ⟨g, off + j, none⟩ = some v) :
    (LDs t (.pointer (some ⟨g, off, none⟩))).run P w = .ok (.agg xs.toArray) w := by
  obtain ⟨i, hq, hs⟩ := Option.map_eq_some_iff.1 hi
  have hagg : (isAgg t).run P w = .ok true w := by
    unfold isAgg
    rw [Sem.run_bind, run_underlying hu w]
    cases d <;> simp_all [isAggD]
  have hcells := run_loadCells_list (P := P) w ⟨g, off, none⟩ xs (fun j v hv => by
    have hadd : (⟨g, off, none⟩ : Addr).add j = ⟨g, off + j, none⟩ := by unfold Addr.add; split <;> simp_all
    rw [hadd]; exact hc j v hv)
  rw [hl] at hcells
  simp [LDs, Instr.loadAt, Instr.sureAddr, loadVar, Sem.run_bind, hagg, sizeOf, typeInfo, hq, hs, hcells]

theorem LDs_blk {P : Program} {w : World} {t : TypeId} {d : TypeDesc} {n : Nat} (hu : P.underlying t = some d) (hd : isAggD d = true) (hi : (P.info? t).map (·.size) = some n)
    {g off : Nat} {e : TypeId} {cs : Array Value} (hb : Blk w g e cs) (xs : List Value) (hl : xs.length = n) (hx : (cs.toList.drop off).take n = xs) :
    (LDs t (.pointer (some ⟨g, off, none⟩))).run P w = .ok (.agg xs.toArray) w :=
  LDs_part w t d n hu hd hi g off xs hl (fun j v hv => by
    rw [hb.cell, ← Array.getElem?_toList]
    rw [← hx, List.getElem?_take, List.getElem?_drop] at hv
    split at hv
    · exact hv
    · cases hv)

theorem STs_blk {P : Program} {w : World} {t : TypeId} {n : Nat} (hi : (P.info? t).map (·.size) = some n)
    {g off : Nat} {e : TypeId} {cs : Array Value} (hb : Blk w g e cs) (xs : List Value) (hl : xs.length = n) (ho : off + n ≤ cs.size) (h1 : ∀ v ∈ xs, v.oneCell' = true) :
    (STs t (.pointer (some ⟨g, off, none⟩)) (.agg xs.toArray)).run P w = .ok () (w.setRow g (splice cs off xs)) := by
  obtain ⟨i, hq, hs⟩ := Option.map_eq_some_iff.1 hi
  have hst := run_storeCells_at P g off e xs 0 cs w hb (by simpa [hl] using ho) h1
  simp only [Nat.add_zero] at hst
  simp [STs, Instr.storeAt, Instr.sureAddr, storeVar, Sem.run_bind, sizeOf, typeInfo, hq, hs, Value.cells, hl, hst, splice]

theorem setRow_alloc_new (w : World) (c cs : Array Value) (t : TypeId) : (w.alloc (.cells c t)).setRow w.heap.size cs = w.alloc (.cells cs t) := by
  simp only [World.setRow, World.alloc]
  congr 1
  apply Array.ext_getElem?
  intro i
  simp only [Array.getElem?_modify, Array.getElem?_push]
  by_cases h : i = w.heap.size
  · subst h; simp
  · simp [h, Ne.symm h]

theorem splice_whole (cs : Array Value) (xs : List Value) (h : xs.length = cs.size) : splice cs 0 xs = xs.toArray := by
  simp [splice, h]

/-- A store of a whole new variable. -/
theorem STs_new {P : Program} {t : TypeId} {n : Nat} (hi : (P.info? t).map (·.size) = some n) (w : World) (c : Array Value) (hcs : c.size = n) (xs : List Value) (hl : xs.length = n) (h1 : ∀ v ∈ xs, v.oneCell' = true) :
    (STs t (.pointer (some ⟨w.heap.size, 0, none⟩)) (.agg xs.toArray)).run P (w.alloc (.cells c t)) = .ok () (w.alloc (.cells xs.toArray t)) := by
  rw [STs_blk hi (Blk.new w t c) xs hl (by omega) h1, splice_whole _ _ (by omega), setRow_alloc_new]

theorem ALs_new {P : Program} {t : TypeId} (z : Value) (hi : (P.info? t).bind (·.zero) = some z) (w : World) :
    (ALs t).run P w = .ok (.pointer (some ⟨w.heap.size, 0, none⟩)) (w.alloc (.cells z.cells t)) := by
  obtain ⟨i, hq, hz⟩ := Option.bind_eq_some_iff.1 hi
  simp [ALs, Instr.alloc, zeroValue, typeInfo, hq, hz, newVar, newRow]

/-- Bytes as values. -/
def bys (l : List Int) : List Value := l.map (Value.int .u8)
theorem bys_length (l : List Int) : (bys l).length = l.length := by simp [bys]
theorem bys_one (l : List Int) : ∀ v ∈ bys l, v.oneCell' = true := by
  intro v hv
  obtain ⟨x, _, rfl⟩ := List.mem_map.1 hv
  rfl
theorem bys_get (l : List Int) (j : Nat) : (bys l)[j]? = (l[j]?).map (Value.int .u8) := by simp [bys]
theorem bys_app (l m : List Int) : bys (l ++ m) = bys l ++ bys m := by simp [bys]
theorem bys_take (l : List Int) (n : Nat) : (bys l).take n = bys (l.take n) := by simp [bys, List.map_take]
theorem bys_drop (l : List Int) (n : Nat) : (bys l).drop n = bys (l.drop n) := by simp [bys, List.map_drop]

/-- Part k of rows of one length. -/
theorem flat_drop_take {α : Type} (m : Nat) : ∀ (L : List (List α)) (_ : ∀ s ∈ L, s.length = m) (k : Nat) (hk : k < L.length), (L.flatten.drop (k * m)).take m = L[k]
  | [], _, k, hk => by simp at hk
  | s :: L, h, k, hk => by
    have hs := h s (by simp)
    cases k with
    | zero => simp [hs]
    | succ k =>
      have ih := flat_drop_take m L (fun s hs => h s (by simp [hs])) k (by simpa using hk)
      simp only [List.flatten_cons, List.getElem_cons_succ]
      rw [← ih, show (k + 1) * m = s.length + k * m by rw [hs, Nat.add_mul]; omega, List.drop_append]
      simp [List.drop_eq_nil_of_le (show s.length ≤ s.length + k * m by omega)]
theorem flat_len {α : Type} (m : Nat) : ∀ (L : List (List α)) (_ : ∀ s ∈ L, s.length = m), L.flatten.length = L.length * m
  | [], _ => by simp
  | s :: L, h => by
    have hs := h s (by simp)
    have ih := flat_len m L (fun s hs => h s (by simp [hs]))
    simp only [List.flatten_cons, List.length_append, List.length_cons, ih, hs, Nat.add_mul]
    omega
theorem flat_splice {α : Type} (m : Nat) : ∀ (L : List (List α)) (_ : ∀ s ∈ L, s.length = m) (k : Nat) (_ : k < L.length) (x : List α) (_ : x.length = m),
    L.flatten.take (k * m) ++ x ++ L.flatten.drop (k * m + m) = (L.set k x).flatten
  | [], _, k, hk, _, _ => by simp at hk
  | s :: L, h, k, hk, x, hx => by
    have hs := h s (by simp)
    cases k with
    | zero => simp [hs]
    | succ k =>
      have ih := flat_splice m L (fun s hs => h s (by simp [hs])) k (by simpa using hk) x hx
      simp only [List.flatten_cons, List.set_cons_succ]
      rw [← ih, show (k + 1) * m = s.length + k * m by rw [hs, Nat.add_mul]; omega, show s.length + k * m + m = s.length + (k * m + m) by omega, List.take_append, List.drop_append]
      simp [List.drop_eq_nil_of_le (show s.length ≤ s.length + (k * m + m) by omega), List.take_of_length_le (show s.length ≤ s.length + k * m by omega)]

/-- A region that draws its order, whose first n operations only read: as 'wp_region_still_tail', the world behind the draw folded. -/
theorem wp_still_tail {P : Program} {id : Nat} {Q : Exit → Act → World → Prop} {a : Act} {w : World} {l : List Oper} (n : Nat) (hm : P.follows .mixedOrders = true) (hB : Region.lexTailB .any l.toArray n = true)
    (h : wpStill P l.toArray w.drew (fun a' => wpList P l.toArray Q (l.drop n) a' w.drew) (l.take n) a) : (Code.region id l.toArray true).wp P Q a w :=
  wp_region_still_tail n hm hB h

/-- Go's copy, kept shut. -/
def CPs (ts : Array TypeId) (t : TypeId) (xs : Array Value) : Sem Value := Builtin.copy_ ts t xs
theorem CPs_of (ts : Array TypeId) (t : TypeId) (xs : Array Value) : Builtin.copy_ ts t xs = CPs ts t xs := rfl
/-- Go's append, kept shut. -/
def APs (ts : Array TypeId) (t : TypeId) (xs : Array Value) : Sem Value := Builtin.append_ ts t xs
theorem APs_of (ts : Array TypeId) (t : TypeId) (xs : Array Value) : Builtin.append_ ts t xs = APs ts t xs := rfl

/-- A copy into a block that is known whole. -/
theorem CPs_blk {P : Program} {w : World} {dT sT ty elem : TypeId} (hu : P.underlying dT = some (.slice elem)) (hs : (P.info? elem).map (·.size) = some 1)
    {g o dLen dCap : Nat} {a : Addr} {sLen sCap : Nat} {cur : Array Value} {t : TypeId} (hg : Blk w g t cur) (cs : List Value) (hn : cs.length = Nat.min sLen dLen)
    (hsrc : ∀ j v, cs[j]? = some v → w.cell? (a.add j) = some v) (hfit : o + cs.length ≤ cur.size) (h1 : ∀ v ∈ cs, v.oneCell' = true) :
    (CPs #[dT, sT] ty #[.slice (some ⟨g, o, none⟩) dLen dCap, .slice (some a) sLen sCap]).run P w = .ok (goInt cs.length) (w.setRow g (splice cur o cs)) :=
  run_copy_row P w dT sT ty elem g o dLen dCap a sLen sCap cur t cs hu hs hg hn hsrc hfit h1

/-- An append onto a row of one's own, whose operands are known: what is known of it. -/
theorem APs_own {P : Program} {w : World} {base : Nat} {t ty e : TypeId} {size bytes : Nat} (ht : P.underlying t = some (.slice e))
    (hi : (P.info? e).map (fun i => (i.zero.map (·.cells.size), i.size, i.bytes)) = some (some size, size, bytes)) (hsz : 0 < size)
    {v : Value} {n : Nat} {xs : List Value} (hown : w.ownsRow base e size v n xs)
    {a : Addr} {m c : Nat} (news : List Value) (hl : news.length = m * size) (hnews : ∀ j u, news[j]? = some u → w.cell? (a.add j) = some u) (h1 : ∀ u ∈ news, u.oneCell' = true)
    (h63 : n + m ≤ maxLen) (hbytes : (n + m) * bytes ≤ 140737488355328) (hbase : base ≤ w.heap.size) :
    ∃ v' w', (APs #[t, t] ty #[v, .slice (some a) m c]).run P w = .ok v' w' ∧ w'.ownsRow base e size v' (n + m) (xs ++ news) ∧ w.grownBy w' v.ownBlock ∧ (v'.ownBlock = v.ownBlock ∨ v'.ownBlock = some w.heap.size) := by
  obtain ⟨i, hq, hh⟩ := Option.map_eq_some_iff.1 hi
  simp only [Prod.mk.injEq] at hh
  obtain ⟨hz, hs, hb⟩ := hh
  obtain ⟨z, hz1, hz2⟩ := Option.map_eq_some_iff.1 hz
  obtain ⟨v', w', h2, h3, h4, _, h5⟩ := run_append_own_at (P := P) w base t ty e i z size bytes ht hq hz1 hs hb hz2 hsz v n xs hown a m c news hl hnews h1 h63 hbytes hbase
  exact ⟨v', w', h2, h3, h4, h5⟩

/-- A slice of an array behind a pointer, kept shut. -/
def SLs (t : TypeId) (x : Value) (lo hi mx : Option Value) : Sem Value := Instr.sliceAt t x lo hi mx
theorem SLs_of (t : TypeId) (x : Value) (lo hi mx : Option Value) : Instr.sliceAt t x lo hi mx = SLs t x lo hi mx := rfl

theorem SLs_arr {P : Program} {t e : TypeId} {n : Nat} (hu : P.underlying t = some (.array n e)) (hs : (P.info? e).map (·.size) = some 1) (w : World) (g off l h : Nat) (vl vh : Int) (el : vl = l) (eh : vh = h) (hlh : l ≤ h) (hn : h ≤ n) (hln : l < n) (_hb : n ≤ 1000000000) :
    (SLs t (.pointer (some ⟨g, off, none⟩)) (some (.int .i64 vl)) (some (.int .i64 vh)) none).run P w = .ok (.slice (some ⟨g, off + l, none⟩) (h - l) (n - l)) w := by
  subst el eh
  obtain ⟨i, hq, hi⟩ := Option.map_eq_some_iff.1 hs
  have e1 : ¬ ((h : Int) < 0 ∨ (n : Int) < (h : Int)) := by omega
  have e2 : ¬ ((l : Int) < 0 ∨ (h : Int) < (l : Int)) := by omega
  have hadd : (⟨g, off, none⟩ : Addr).add l = ⟨g, off + l, none⟩ := by unfold Addr.add; split <;> simp_all
  have hne : ¬ n = l := by omega
  simp [SLs, Instr.sliceAt, Instr.sureAddr, Instr.sliceBounds, Instr.sliceBound, asIntOf, run_underlying hu, sizeOf, typeInfo, hq, hi, hne, hadd, hlh, hn]
theorem SLs_from {P : Program} {t e : TypeId} {n : Nat} (hu : P.underlying t = some (.array n e)) (hs : (P.info? e).map (·.size) = some 1) (w : World) (g off l : Nat) (vl : Int) (el : vl = l) (hln : l < n) (_hb : n ≤ 1000000000) :
    (SLs t (.pointer (some ⟨g, off, none⟩)) (some (.int .i64 vl)) none none).run P w = .ok (.slice (some ⟨g, off + l, none⟩) (n - l) (n - l)) w := by
  subst el
  obtain ⟨i, hq, hi⟩ := Option.map_eq_some_iff.1 hs
  have hadd : (⟨g, off, none⟩ : Addr).add l = ⟨g, off + l, none⟩ := by unfold Addr.add; split <;> simp_all
  have hne : ¬ n = l := by omega
  have hle : l ≤ n := by omega
  simp [SLs, Instr.sliceAt, Instr.sureAddr, Instr.sliceBounds, Instr.sliceBound, asIntOf, run_underlying hu, sizeOf, typeInfo, hq, hi, hne, hadd, hle]

/-- A struct put together, kept shut. -/
def BDs (t : TypeId) (parts : Array (Nat × Value)) : Sem Value := Instr.build t parts
theorem BDs_of (t : TypeId) (parts : Array (Nat × Value)) : Instr.build t parts = BDs t parts := rfl
/-- A slice put together, kept shut. -/
def BSs (t : TypeId) (n : Nat) (parts : Array (Nat × Value)) : Sem Value := Instr.buildSlice t n parts
theorem BSs_of (t : TypeId) (n : Nat) (parts : Array (Nat × Value)) : Instr.buildSlice t n parts = BSs t n parts := rfl

theorem foldl_splice (off : Nat) : ∀ (xs : List Value) (k : Nat) (cs : Array Value), off + k + xs.length ≤ cs.size →
    (xs.zipIdx k).foldl (fun cs (p : Value × Nat) => cs.setIfInBounds (off + p.2) p.1) cs = splice cs (off + k) xs
  | [], k, cs, _ => by simp [splice]
  | x :: xs, k, cs, h => by
    simp only [List.zipIdx_cons, List.foldl_cons]
    rw [foldl_splice off xs (k + 1) _ (by simp at h ⊢; omega)]
    have e := list_seg_step cs.toList (off + k) x xs (by simp at h ⊢; omega)
    unfold splice
    simpa [Array.toList_setIfInBounds, Nat.add_assoc, Nat.add_comm 1] using e

theorem fill_one (place : Nat → Option (Nat × Nat)) (cells : Array Value) (i off size : Nat) (v : Value) (rest : List (Nat × Value)) (hp : place i = some (off, size)) (hs : v.cells.size = size) (hf : off + size ≤ cells.size) :
    Instr.fill place cells ((i, v) :: rest) = Instr.fill place (splice cells off v.cells.toList) rest := by
  have e := foldl_splice off v.cells.toList 0 cells (by simp [hs]; omega)
  rw [Nat.add_zero] at e
  rw [Instr.fill]
  simp only [hp, hs]
  rw [if_neg (by simp; omega)]
  congr 1
  rw [← e, ← Array.toList_zipIdx, ← Array.foldl_toList]

/-- A struct of two fields, the first of one cell. -/
theorem BDs_two {P : Program} {t : TypeId} {f0 f1 : Field} {m : Nat} (hu : P.underlying t = some (.struct #[f0, f1]))
    (hz : ((P.info? t).bind (·.zero)).map (·.cells.size) = some (1 + m)) (h0 : (P.info? f0.type).map (·.size) = some 1) (h1 : (P.info? f1.type).map (·.size) = some m) (o0 : f0.offset = 0) (o1 : f1.offset = 1)
    (w : World) (v0 v1 : Value) (hv0 : v0.cells.size = 1) (hv1 : v1.cells.size = m) :
    (BDs t #[(0, v0), (1, v1)]).run P w = .ok (.agg (v0.cells ++ v1.cells)) w := by
  refine run_build w t _ _ ?_
  obtain ⟨z, hz1, hz2⟩ := Option.map_eq_some_iff.1 hz
  obtain ⟨i, hq, hz3⟩ := Option.bind_eq_some_iff.1 hz1
  obtain ⟨i0, q0, s0⟩ := Option.map_eq_some_iff.1 h0
  obtain ⟨i1, q1, s1⟩ := Option.map_eq_some_iff.1 h1
  unfold Program.built
  simp only [hq, hu, hz3, List.mapM_cons, List.mapM_nil, q0, q1, s0, s1, o0, o1, Option.map_some, Option.bind_eq_bind, Option.bind_some, Option.pure_def]
  rw [fill_one _ _ 0 0 1 v0 _ (by simp) hv0 (by omega), fill_one _ _ 1 1 m v1 _ (by simp) hv1 (by rw [size_splice _ _ _ (by simp [hv0]; omega)]; omega)]
  simp only [Instr.fill, Option.some.injEq]
  apply Array.ext'
  have l0 : v0.cells.toList.length = 1 := by simpa using hv0
  have l1 : v1.cells.toList.length = m := by simpa using hv1
  simp [splice, l0, l1, List.drop_append, hz2]
  omega

/-- A slice of one element. -/
theorem BSs_one {P : Program} {t e : TypeId} {size : Nat} (hu : P.underlying t = some (.slice e)) (hi : (P.info? e).map (fun i => (i.zero.map (·.cells.size), i.size)) = some (some size, size)) (h0 : 0 < size) (h24 : size ≤ 16777216)
    (w : World) (v : Value) (hv : v.cells.size = size) :
    (BSs t 1 #[(0, v)]).run P w = .ok (.slice (some ⟨w.heap.size, 0, none⟩) 1 1) (w.alloc (.cells v.cells e)) := by
  obtain ⟨i, hq, hh⟩ := Option.map_eq_some_iff.1 hi
  simp only [Prod.mk.injEq] at hh
  obtain ⟨hz, hs⟩ := hh
  obtain ⟨z, hz1, hz2⟩ := Option.map_eq_some_iff.1 hz
  have hfl : Instr.fill (fun i => some (i * size, size)) ((Array.range (1 * size)).map (z.cells[· % z.cells.size]!)) [(0, v)] = some v.cells := by
    rw [fill_one _ _ 0 0 size v _ (by simp) hv (by simp)]
    simp only [Instr.fill, Option.some.injEq]
    rw [splice_whole _ _ (by simp [hv])]
  have hb : ¬ (1 * size > 2 ^ 24) := by simp; omega
  have hz0 : ¬ (1 * size = 0) := by omega
  simp only [Nat.one_mul] at hfl hb hz0
  simp [BSs, Instr.buildSlice, run_underlying hu, sizeOf, typeInfo, zeroValue, hq, hs, hz1, hb, hz0, hfl, newRow]

/-- A slice as an array. -/
theorem run_arrayAt {P : Program} {t e : TypeId} {n : Nat} (hu : P.underlying t = some (.array n e)) (A : Option Addr) (m c : Nat) (h : n ≤ m) (w : World) : (Instr.arrayAt t (.slice A m c)).run P w = .ok (.pointer A) w := by
  have : ¬ m < n := by omega
  simp [Instr.arrayAt, run_underlying hu, this]

end Go.Proofs.YtmflhidmhefljaaDoor
end

section
namespace Go.Proofs.YtmflhidmhefljaaDoor
open Go.RowKit

section
variable {w : World} {p : Nat} {sv wv : Value} {fuse : Int} {off : Bool}
end

theorem made_eq (z : Array Value) (u : Value) (n m : Nat) (hz : z.toList = List.replicate m u) (hm : 0 < m) : (madeCells z n).toList = List.replicate n u := by
  have hzs : z.size = m := by rw [← Array.length_toList, hz]; simp
  unfold madeCells
  apply List.ext_getElem
  · simp
  · intro i h1 h2
    have hi : i % z.size < z.size := Nat.mod_lt _ (by omega)
    simp only [Array.toList_map, List.getElem_map, Array.toList_range, List.getElem_range, List.getElem_replicate]
    rw [getElem!_pos z _ hi]
    have : z.toList[i % z.size]'(by simpa using hi) = u := by simp [hz]
    simpa using this

end Go.Proofs.YtmflhidmhefljaaDoor
end
