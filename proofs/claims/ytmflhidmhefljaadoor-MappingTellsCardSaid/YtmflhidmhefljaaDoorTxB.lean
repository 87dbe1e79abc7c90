/-
  tx.isTwice: a set of outputs as a map.
-/
import Derived.Test.YtmflhidmhefljaaDoorTxA
import Derived.Maps.OwnSet
import Derived.Maps.Views
import Derived.WideKeyEntry
import Derived.DeepKeys4
namespace Go.Proofs.YtmflhidmhefljaaDoor
open Go.RowKit Go.Shelf Go.Maps
set_option maxRecDepth 100000

theorem mapM_map {α β : Type} (f : α → Option β) (g : α → β) : ∀ l : List α, (∀ x ∈ l, f x = some (g x)) → l.mapM f = some (l.map g)
  | [], _ => rfl
  | x :: l, h => by
    rw [List.mapM_cons, h x (by simp), mapM_map f g l (fun y hy => h y (by simp [hy]))]
    rfl
theorem uPtS : ∃ f0 f1 : Field, Tryd.prog.underlying 25 = some (.struct #[f0, f1]) ∧ f0.type = 23 ∧ f1.type = 3 ∧ f0.offset = 0 ∧ f1.offset = 32 ∧ f0.name ≠ "_" ∧ f1.name ≠ "_" :=
  ⟨_, _, Tryd.underlying25, rfl, rfl, rfl, rfl, by decide, by decide⟩
theorem uId : Tryd.prog.underlying 23 = some (.array 32 5) := by kernel_rfl
theorem uU8 : Tryd.prog.underlying 5 = some (.int .u8) := by kernel_rfl
theorem uI64 : Tryd.prog.underlying 3 = some (.int .i64) := by kernel_rfl
theorem cId : Tryd.prog.cellsOf 23 = 32 := by kernel_rfl
theorem cU8 : Tryd.prog.cellsOf 5 = 1 := by kernel_rfl
theorem cI64 : Tryd.prog.cellsOf 3 = 1 := by kernel_rfl
theorem cPt : Tryd.prog.cellsOf 25 = 33 := by kernel_rfl
theorem wf_u8 {x : Int} (h : 0 ≤ x ∧ x ≤ 255) : (Lit.int .u8 x).wf = true := by
  simp only [Lit.wf]
  rw [show IntKind.u8.min = 0 from rfl, show IntKind.u8.max = 255 from rfl]
  simp [h]
theorem wf_i64' {x : Int} (h : -9223372036854775808 ≤ x ∧ x ≤ 9223372036854775807) : (Lit.int .i64 x).wf = true := by
  simp only [Lit.wf]
  rw [show IntKind.i64.min = -9223372036854775808 from rfl, show IntKind.i64.max = 9223372036854775807 from rfl]
  simp [h]
theorem lits_u8 (d : Nat) {x : Int} (h : 0 ≤ x ∧ x ≤ 255) : Tryd.prog.keyLits (d + 1) 5 [.int .u8 x] = some [.int .u8 x] := by
  unfold Program.keyLits
  simp [wf_u8 h]
theorem lits_i64 (d : Nat) {x : Int} (h : -9223372036854775808 ≤ x ∧ x ≤ 9223372036854775807) : Tryd.prog.keyLits (d + 1) 3 [.int .i64 x] = some [.int .i64 x] := by
  unfold Program.keyLits
  simp [wf_i64' h]
theorem lits_id (d : Nat) {tx : List Int} (hl : tx.length = 32) (hb : ∀ x ∈ tx, 0 ≤ x ∧ x ≤ 255) : Tryd.prog.keyLits (d + 2) 23 (bys tx) = some (tx.map (Lit.int .u8)) := by
  have e : (List.range 32).mapM (fun i => Tryd.prog.keyLits (d + 1) 5 (((bys tx).drop (i * 1)).take 1)) = some ((List.range 32).map fun i => [Lit.int .u8 (tx.getD i 0)]) := by
    refine mapM_map _ _ _ (fun i hi => ?_)
    have hi' : i < tx.length := by have := List.mem_range.1 hi; omega
    have : ((bys tx).drop (i * 1)).take 1 = [.int .u8 (tx.getD i 0)] := by
      rw [Nat.mul_one, List.drop_eq_getElem_cons (by simpa [bys_length] using hi')]
      simp [bys, List.getD, hi']
    rw [this]
    exact lits_u8 d (by
      have : tx.getD i 0 = tx[i] := by simp [List.getD, hi']
      rw [this]
      exact hb _ (List.getElem_mem hi'))
  unfold Program.keyLits
  simp only [uId]
  rw [if_pos (by rw [cId, bys_length, hl]), cU8, e]
  simp only [Option.map_some, Option.some.injEq]
  apply List.ext_getElem?
  intro j
  have f1 : ((List.range 32).map fun i => [Lit.int .u8 (tx.getD i 0)]).flatten = (List.range 32).map fun i => Lit.int .u8 (tx.getD i 0) := by
    rw [← List.flatMap_def]
    induction (List.range 32) with
    | nil => rfl
    | cons x l ih => rw [List.flatMap_cons, ih]; rfl
  rw [f1]
  simp only [List.getElem?_map]
  by_cases hj : j < 32
  · have hj' : j < tx.length := by omega
    rw [List.getElem?_range hj]
    simp [List.getD, hj']
  · rw [List.getElem?_eq_none (by simp; omega), List.getElem?_eq_none (by omega)]
    rfl
/-- What a point reads as, as a key. -/
def ptK (tx : List Int) (ix : Int) : Lit := .string (keyBytes (tx.map (Lit.int .u8) ++ [.int .i64 ix]))
theorem ptLaw : Go.WideMaps.KeyLaw Tryd.prog 25 := deep_law_laid (by kernel_rfl) (m := 4) (by omega) (of_decide_eq_true (by kernel_rfl)) (by kernel_rfl) (by obtain ⟨f0, f1, h, _⟩ := uPtS; rw [h])
theorem key_pt {tx : List Int} {ix : Int} (hl : tx.length = 32) (hb : ∀ x ∈ tx, 0 ≤ x ∧ x ≤ 255) (hx : -9223372036854775808 ≤ ix ∧ ix ≤ 9223372036854775807) :
    keyOf Tryd.prog 25 (.agg (ptL tx ix).toArray) = some (ptK tx ix) := by
  obtain ⟨f0, f1, hu, t0, t1, o0, o1, n0, n1⟩ := uPtS
  have hk : Tryd.prog.keyType 25 = true := by kernel_rfl
  obtain ⟨m, hm⟩ : ∃ m, Tryd.prog.types.size = m + 2 := ⟨Tryd.prog.types.size - 2, by have : 2 ≤ Tryd.prog.types.size := of_decide_eq_true (by kernel_rfl); omega⟩
  unfold keyOf
  simp only [hu]
  rw [if_pos (by rw [hk]; simp [Value.formed, hu, cPt, ptL_len hl]), hm]
  unfold Program.keyLits
  simp only [hu, Value.cells]
  have d0 : ((ptL tx ix).drop 0).take 32 = bys tx := by
    rw [List.drop_zero]
    unfold ptL
    rw [List.take_append_of_le_length (by rw [bys_length]; omega), List.take_of_length_le (by rw [bys_length]; omega)]
  have d1 : ((ptL tx ix).drop 32).take 1 = [.int .i64 ix] := by
    unfold ptL
    rw [List.drop_append_of_le_length (by rw [bys_length]; omega), List.drop_of_length_le (by rw [bys_length]; omega)]
    rfl
  rw [if_pos ⟨by rw [cPt]; exact ptL_len hl ix, by simp [n0, n1]⟩]
  rw [List.mapM_cons, List.mapM_cons, List.mapM_nil, t0, t1, o0, o1, cId, cI64, d0, d1, lits_id _ hl hb, lits_i64 _ hx]
  simp [ptK]

/-! ### The set -/
theorem uMap : Tryd.prog.underlying 105 = some (.map 25 3) := by kernel_rfl
theorem zI64 (w : World) : (zeroValue 3).run Tryd.prog w = .ok (.int .i64 0) w := by kernel_rfl
theorem ptKeyed : Keyed Tryd.prog 25 := Keyed.of_law ptLaw
/-- A point. -/
structure PtOk (p : List Int × Int) : Prop where
  len : p.1.length = 32
  tx : ∀ x ∈ p.1, 0 ≤ x ∧ x ≤ 255
  ix : -9223372036854775808 ≤ p.2 ∧ p.2 ≤ 9223372036854775807
theorem PtOk.key {p : List Int × Int} (h : PtOk p) : keyOf Tryd.prog 25 (.agg (ptL p.1 p.2).toArray) = some (ptK p.1 p.2) := key_pt h.len h.tx h.ix
theorem ptL_inj {p q : List Int × Int} (hp : PtOk p) (hq : PtOk q) (h : (Value.agg (ptL p.1 p.2).toArray) = .agg (ptL q.1 q.2).toArray) : p = q := by
  have e : ptL p.1 p.2 = ptL q.1 q.2 := by simpa using h
  unfold ptL at e
  obtain ⟨e1, e2⟩ := List.append_inj e (by rw [bys_length, bys_length, hp.len, hq.len])
  have e3 : p.1 = q.1 := by
    unfold bys at e1
    exact (List.map_inj_right (fun a b h => by simpa using h)).1 e1
  have e4 : p.2 = q.2 := by simpa using e2
  exact Prod.ext e3 e4
theorem ptK_inj {p q : List Int × Int} (hp : PtOk p) (hq : PtOk q) (h : ptK p.1 p.2 = ptK q.1 q.2) : p = q :=
  ptL_inj hp hq (ptKeyed.inj hp.key (h ▸ hq.key))

/-- Block b is the set of these points: each has 1. -/
def SeenAt (w : World) (b n : Nat) (l : List (List Int × Int)) : Prop :=
  ∃ D : DataW Nat, w.ownsMap Tryd.prog 25 (plainElem Tryd.prog 3) b n D ∧
    ∀ p, PtOk p → (p ∈ l → ∀ z, D.atKey (ptK p.1 p.2) z = .lit (.int .i64 1)) ∧ (p ∉ l → ∀ z, D.atKey (ptK p.1 p.2) z = z)

theorem SeenAt.made (w : World) : SeenAt (w.alloc (.map #[] 0)) w.heap.size 0 [] :=
  ⟨_, World.ownsMap_made _ _ _ _, fun p _ => ⟨fun h => absurd h (by simp), fun _ z => WideAt.atKey_none z (by simp)⟩⟩
theorem SeenAt.kept {w w' : World} {b n : Nat} {l : List (List Int × Int)} {row : Option Nat} (h : SeenAt w b n l) (hg : w.grownBy w' row) (hne : some b ≠ row) : SeenAt w' b n l := by
  obtain ⟨D, h1, h2⟩ := h
  exact ⟨D, h1.kept hg hne, h2⟩
theorem SeenAt.lt {w : World} {b n : Nat} {l : List (List Int × Int)} (h : SeenAt w b n l) : b < w.heap.size := by
  obtain ⟨D, h1, _⟩ := h
  exact h1.lt
theorem SeenAt.look {w : World} {b n : Nat} {l : List (List Int × Int)} (h : SeenAt w b n l) {p : List Int × Int} (hp : PtOk p) :
    (Instr.lookup 105 (.map (some b)) (.agg (ptL p.1 p.2).toArray) false).run Tryd.prog w = .ok (.int .i64 (if p ∈ l then 1 else 0)) w := by
  obtain ⟨D, h1, h2⟩ := h
  obtain ⟨c, hr, hat, _⟩ := h1.lookup_int ptKeyed uMap uI64 (zI64 w) hp.key
  rw [hr]
  by_cases hm : p ∈ l
  · rw [(h2 p hp).1 hm] at hat
    rw [if_pos hm]
    simp only [DataW.lit.injEq, Lit.int.injEq, true_and] at hat
    rw [hat]
  · rw [(h2 p hp).2 hm] at hat
    rw [if_neg hm]
    simp only [DataW.lit.injEq, Lit.int.injEq, true_and] at hat
    rw [hat]

theorem setBlock_twice (w : World) (b : Nat) (o o' : Obj) : ChangeMaps.setBlock (ChangeMaps.setBlock w b o) b o' = ChangeMaps.setBlock w b o' := by
  unfold ChangeMaps.setBlock
  simp

/-- 'm[k]++' at a point that is not there. -/
theorem SeenAt.incr {w : World} {b n : Nat} {l : List (List Int × Int)} (h : SeenAt w b n l) (hn : n < 1000000000) {p : List Int × Int} (hp : PtOk p) (hm : p ∉ l) :
    ∃ (st : Nat) (w1 w2 : World), (Instr.mapEntry 105 (.map (some b)) (.agg (ptL p.1 p.2).toArray)).run Tryd.prog w = .ok (.tuple #[.int .i64 0, .int .i64 (st : Int)]) w1 ∧
      (Instr.lookup 105 (.map (some b)) (.agg (ptL p.1 p.2).toArray) false).run Tryd.prog w1 = .ok (.int .i64 0) w1 ∧
      (Instr.entryStore 105 (.map (some b)) (.int .i64 (st : Int)) (.int .i64 1)).run Tryd.prog w1 = .ok () w2 ∧
      SeenAt w2 b (n + 1) (l ++ [p]) ∧ w.grownBy w2 (some b) ∧ w.grownBy w1 (some b) := by
  obtain ⟨D, h1, h2⟩ := h
  obtain ⟨w2, hu2, ho2, hg2⟩ := h1.update (key := .agg (ptL p.1 p.2).toArray) (val := .int .i64 1) ptKeyed uMap (by unfold maxLen; omega) hp.key (plainElem_int uI64 (wf_i64' (by omega)))
  obtain ⟨w1, hu1, ho1, hg1⟩ := h1.update (key := .agg (ptL p.1 p.2).toArray) (val := .int .i64 0) ptKeyed uMap (by unfold maxLen; omega) hp.key (plainElem_int uI64 (wf_i64' (by omega)))
  obtain ⟨c, hl1, hat1, _⟩ := ho1.lookup_int ptKeyed uMap uI64 (zI64 w1) hp.key
  rw [Maps.atKey_put_same h1.isMap (ptKeyed.key hp.key)] at hat1
  obtain rfl : c = 0 := by
    simp only [DataW.lit.injEq, Lit.int.injEq, true_and] at hat1
    exact hat1.symm
  obtain ⟨es, clock, hb, F, hs, hD⟩ := h1
  have hno : ∀ x ∈ es.toList, x.key ≠ .agg (ptL p.1 p.2).toArray := by
    intro x hx hk
    obtain ⟨y, hy⟩ := F.reads x hx
    obtain ⟨z, hz⟩ : ∃ z, plainElem (H := Nat) Tryd.prog 3 x.val = some z := by
      unfold Go.WideElems.rd at hy
      cases hq : plainElem (H := Nat) Tryd.prog 3 x.val with
      | none => rw [hq] at hy; cases hkk : keyOf Tryd.prog 25 x.key <;> simp [hkk] at hy
      | some z => exact ⟨z, rfl⟩
    have e1 := Go.WideElems.atKey_some ptLaw F hp.key hx hk hz (.lit (.int .i64 5))
    have e2 := Go.WideElems.atKey_some ptLaw F hp.key hx hk hz (.lit (.int .i64 6))
    rw [← hD, (h2 p hp).2 hm] at e1 e2
    rw [← e2] at e1
    simp at e1
  have hfind : (Instr.findKey 25 (.agg (ptL p.1 p.2).toArray) es.toList).run Tryd.prog w = .ok none w := by
    rcases ptLaw.find w hp.key es.toList F.keys with ⟨h', _⟩ | ⟨j, e0, _, h', h''⟩
    · exact h'
    · exact absurd h'' (hno e0 (List.mem_of_getElem? h'))
  have hck := ptLaw.check w false hp.key
  have hmu : ∀ val, (Instr.mapUpdate 105 (.map (some b)) (.agg (ptL p.1 p.2).toArray) val).run Tryd.prog w = .ok () (ChangeMaps.setBlock w b (.map (es.push ⟨.agg (ptL p.1 p.2).toArray, val, clock⟩) (clock + 1))) := by
    intro val
    simp [Instr.mapUpdate, run_underlying uMap, MapKept.run_getObj_map hb, hck, hfind, MapKept.run_setObj_map _ hb, Result.andThen, ChangeMaps.setBlock]
  rw [hmu] at hu1 hu2
  simp only [Result.ok.injEq, true_and] at hu1 hu2
  have hb1 : w1.heap[b]? = some (.map (es.push ⟨.agg (ptL p.1 p.2).toArray, .int .i64 0, clock⟩) (clock + 1)) := by
    rw [← hu1]; exact ChangeMaps.heap_setBlock_same hb _
  obtain ⟨s1, s2, _⟩ := F.stamped
  refine ⟨clock, w1, w2, ?_, hl1, ?_, ⟨_, ho2, fun q hq => ?_⟩, hg2, hg1⟩
  · rw [← hu1]
    simp [Instr.mapEntry, run_underlying uMap, MapKept.run_getObj_map hb, hck, hfind, MapKept.run_setObj_map _ hb, Result.andThen, ChangeMaps.setBlock, goInt]
  · have hidx : (es.push ⟨.agg (ptL p.1 p.2).toArray, .int .i64 0, clock⟩).findIdx? (fun e => ((e.born : Nat) : Int) == ((clock : Nat) : Int)) = some es.size := by
      rw [Go.WideElems.findIdx_arr]
      have := Go.WideElems.findIdx_born (l := (es.push ⟨.agg (ptL p.1 p.2).toArray, .int .i64 0, clock⟩).toList) (j := es.size) (e0 := ⟨.agg (ptL p.1 p.2).toArray, .int .i64 0, clock⟩) (by
        simp only [Array.toList_push, List.map_append, List.map_cons, List.map_nil]
        refine List.nodup_append.2 ⟨s2, by simp, fun a ha c hc e1 => ?_⟩
        simp only [List.mem_singleton] at hc
        obtain ⟨x, hx, rfl⟩ := List.mem_map.1 ha
        have := s1 x hx
        omega) (by simp)
      exact this
    have hmod : (es.push ⟨.agg (ptL p.1 p.2).toArray, .int .i64 0, clock⟩).modify es.size (fun e => { e with val := .int .i64 1 }) = es.push ⟨.agg (ptL p.1 p.2).toArray, .int .i64 1, clock⟩ := by
      apply Array.ext'
      rw [Array.toList_modify, Array.toList_push, Array.toList_push, ← Array.length_toList, Go.WideElems.modify_last]
    rw [← hu2, ← setBlock_twice w b (.map (es.push ⟨.agg (ptL p.1 p.2).toArray, .int .i64 0, clock⟩) (clock + 1)), hu1]
    simp [Instr.entryStore, MapKept.run_getObj_map hb1, asInt, asIntOf, hidx, hmod, MapKept.run_setObj_map _ hb1, Result.andThen, ChangeMaps.setBlock]
  · by_cases e : q = p
    · subst e
      refine ⟨fun _ z => Maps.atKey_put_same ⟨_, hD⟩ (ptKeyed.key hp.key) _ z, fun h => absurd (by simp) h⟩
    · have hk : ptK q.1 q.2 ≠ ptK p.1 p.2 := fun h => e (ptK_inj hq hp h)
      refine ⟨fun h z => ?_, fun h z => ?_⟩
      · rw [Maps.atKey_put_other hk]
        exact (h2 q hq).1 (by simpa [e] using h) z
      · rw [Maps.atKey_put_other hk]
        exact (h2 q hq).2 (fun h' => h (by simp [h'])) z
end Go.Proofs.YtmflhidmhefljaaDoor
