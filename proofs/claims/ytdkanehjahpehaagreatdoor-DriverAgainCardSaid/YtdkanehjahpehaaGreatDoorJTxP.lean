/-
  A transaction, plain: what is right, its form, its digest, the shards of its inputs and outputs.
-/
import Derived.Test.YtdkanehjahpehaaGreatDoorJCat
import Derived.Test.YtdkanehjahpehaaGreatDoorJMapO

namespace Go.Proofs.YtdkanehjahpehaaGreatDoor
open Go.RowKit Go.Shelf
set_option maxRecDepth 100000

/-- An input. -/
structure InD where
  tx : List Int
  ix : Int
  am : Int
  sec : List Int
/-- An output. -/
structure OutD where
  ow : List Int
  am : Int
/-- A transaction. -/
structure TxD where
  ins : List InD
  outs : List OutD
  fee : Int
  exp : Int
instance : Inhabited InD := ⟨⟨[], 0, 0, []⟩⟩
instance : Inhabited OutD := ⟨⟨[], 0⟩⟩

structure InD.Bd (i : InD) : Prop where
  len : i.tx.length = 32
  tx : ∀ x ∈ i.tx, 0 ≤ x ∧ x ≤ 255
  ix : -9223372036854775808 ≤ i.ix ∧ i.ix ≤ 9223372036854775807
  am : 0 ≤ i.am ∧ i.am ≤ 18446744073709551615
  sec : ∀ x ∈ i.sec, 0 ≤ x ∧ x ≤ 255
structure OutD.Bd (o : OutD) : Prop where
  len : o.ow.length = 32
  ow : ∀ x ∈ o.ow, 0 ≤ x ∧ x ≤ 255
  am : 0 ≤ o.am ∧ o.am ≤ 18446744073709551615
structure TxD.Bd (t : TxD) : Prop where
  ins : ∀ i ∈ t.ins, i.Bd
  outs : ∀ o ∈ t.outs, o.Bd
  fee : 0 ≤ t.fee ∧ t.fee ≤ 18446744073709551615
  exp : -9223372036854775808 ≤ t.exp ∧ t.exp ≤ 9223372036854775807

/-- Is an input's part outside? -/
def inLongP (i : InD) : Bool := decide (64 < i.sec.length) || !decide (0 ≤ i.ix ∧ i.ix ≤ 15)
/-- Has a transaction parts that are outside? -/
def longP (t : TxD) : Bool := !decide (1 ≤ t.ins.length ∧ t.ins.length ≤ 16) || (!decide (1 ≤ t.outs.length ∧ t.outs.length ≤ 16) || (!decide (0 ≤ t.exp ∧ t.exp ≤ 1099511627776) || t.ins.any inLongP))
/-- The outputs that are spent. -/
def ptsP (l : List InD) : List (List Int × Int) := l.map fun i => (i.tx, i.ix)
/-- Is one spent twice? -/
def twiceP (l : List InD) : Bool := !decide (ptsP l).Nodup
def zeroP (t : TxD) : Bool := (t.ins.map (·.am)).contains 0 || (t.outs.map (·.am)).contains 0
/-- The sums. -/
def sumsP (t : TxD) : Int :=
  if (allQ 0 (t.ins.map (·.am))).2 ≠ 0 then (allQ 0 (t.ins.map (·.am))).2
  else if (allQ 0 (t.outs.map (·.am) ++ [t.fee])).2 ≠ 0 then (allQ 0 (t.outs.map (·.am) ++ [t.fee])).2
  else if (allQ 0 (t.ins.map (·.am))).1 ≠ (allQ 0 (t.outs.map (·.am) ++ [t.fee])).1 then 9 else 0
/-- Is a transaction right: an error's number. -/
def checkP (t : TxD) : Int := if longP t then 4 else if twiceP t.ins then 7 else if zeroP t then 8 else sumsP t

theorem sumsP_bd (t : TxD) : 0 ≤ sumsP t ∧ sumsP t ≤ 9 := by
  unfold sumsP
  have h1 := allQ_e (t.ins.map (·.am)) 0
  have h2 := allQ_e (t.outs.map (·.am) ++ [t.fee]) 0
  split
  · omega
  · split
    · omega
    · split <;> omega
theorem checkP_bd (t : TxD) : 0 ≤ checkP t ∧ checkP t ≤ 9 := by
  unfold checkP
  have := sumsP_bd t
  split
  · omega
  · split
    · omega
    · split <;> omega

/-- An input's form, and an output's. -/
def inF (i : InD) : List Int := i.tx ++ (numP i.ix.toNat ++ (numP i.am.toNat ++ (numP i.sec.length ++ i.sec)))
def outF (o : OutD) : List Int := o.ow ++ numP o.am.toNat
/-- A transaction's form. -/
def formTx (t : TxD) : List Int := numP t.ins.length ++ t.ins.flatMap inF ++ numP t.outs.length ++ t.outs.flatMap outF ++ numP t.fee.toNat ++ numP t.exp.toNat
/-- .. of a right one. -/
def putP (t : TxD) : List Int := if checkP t = 0 then formTx t else []
/-- A transaction's digest. -/
def idP (t : TxD) : List Int := if checkP t = 0 then underP 8 [formTx t] else List.replicate 32 0
theorem idP_len (t : TxD) : (idP t).length = 32 := by
  unfold idP
  split
  · exact underP_len _ _
  · simp
theorem idP_bd (t : TxD) : ∀ x ∈ idP t, 0 ≤ x ∧ x ≤ 255 := by
  unfold idP
  split
  · exact underP_bd _ _
  · intro x hx
    have := List.eq_of_mem_replicate hx
    omega

/-- What a right transaction has. -/
theorem checkP_ok {t : TxD} (h : checkP t = 0) : longP t = false ∧ twiceP t.ins = false ∧ zeroP t = false ∧ sumsP t = 0 := by
  unfold checkP at h
  split at h
  · simp at h
  · split at h
    · simp at h
    · split at h
      · simp at h
      · simp_all
theorem longP_not {t : TxD} (h : longP t = false) : (1 ≤ t.ins.length ∧ t.ins.length ≤ 16) ∧ (1 ≤ t.outs.length ∧ t.outs.length ≤ 16) ∧ (0 ≤ t.exp ∧ t.exp ≤ 1099511627776) ∧ ∀ i ∈ t.ins, i.sec.length ≤ 64 ∧ 0 ≤ i.ix ∧ i.ix ≤ 15 := by
  unfold longP at h
  simp only [Bool.or_eq_false_iff, Bool.not_eq_false', decide_eq_true_eq, List.any_eq_false] at h
  refine ⟨h.1, h.2.1, h.2.2.1, fun i hi => ?_⟩
  have := h.2.2.2 i hi
  unfold inLongP at this
  simp only [Bool.or_eq_true, decide_eq_true_eq, Bool.not_eq_true', not_or, decide_eq_false_iff_not, Classical.not_not] at this
  omega

theorem numP_le {n : Nat} (h : n < 18446744073709551616) : (numP n).length ≤ 9 := by
  have := leP_len8 h
  rw [numP_len]
  omega
theorem inF_len {i : InD} (h : i.Bd) (hs : i.sec.length ≤ 64) (hx : 0 ≤ i.ix ∧ i.ix ≤ 15) : (inF i).length ≤ 123 := by
  unfold inF
  have h1 := numP_le (n := i.ix.toNat) (by omega)
  have h2 := numP_le (n := i.am.toNat) (by have := h.am; omega)
  have h3 := numP_le (n := i.sec.length) (by omega)
  have := h.len
  simp only [List.length_append]
  omega
theorem outF_len {o : OutD} (h : o.Bd) : (outF o).length ≤ 41 := by
  unfold outF
  have h2 := numP_le (n := o.am.toNat) (by have := h.am; omega)
  have := h.len
  simp only [List.length_append]
  omega
theorem flat_le {α : Type} (f : α → List Int) (m : Nat) : ∀ (l : List α) (_ : ∀ x ∈ l, (f x).length ≤ m), (l.flatMap f).length ≤ l.length * m
  | [], _ => by simp
  | x :: l, h => by
    have h1 := flat_le f m l (fun y hy => h y (by simp [hy]))
    have h2 := h x (by simp)
    simp only [List.flatMap_cons, List.length_append, List.length_cons, Nat.add_mul, Nat.one_mul]
    omega
theorem formTx_len {t : TxD} (hb : t.Bd) (h : longP t = false) : (formTx t).length ≤ 2660 := by
  obtain ⟨h1, h2, h3, h4⟩ := longP_not h
  have f1 := flat_le inF 123 t.ins (fun i hi => inF_len (hb.ins i hi) (h4 i hi).1 (h4 i hi).2)
  have f2 := flat_le outF 41 t.outs (fun o ho => outF_len (hb.outs o ho))
  have n1 := numP_le (n := t.ins.length) (by omega)
  have n2 := numP_le (n := t.outs.length) (by omega)
  have n3 := numP_le (n := t.fee.toNat) (by have := hb.fee; omega)
  have n4 := numP_le (n := t.exp.toNat) (by omega)
  have m1 : t.ins.length * 123 ≤ 16 * 123 := Nat.mul_le_mul_right _ h1.2
  have m2 : t.outs.length * 41 ≤ 16 * 41 := Nat.mul_le_mul_right _ h2.2
  unfold formTx
  simp only [List.length_append]
  omega
theorem bd_app {a b : List Int} (ha : ∀ x ∈ a, 0 ≤ x ∧ x ≤ 255) (hb : ∀ x ∈ b, 0 ≤ x ∧ x ≤ 255) : ∀ x ∈ a ++ b, 0 ≤ x ∧ x ≤ 255 := fun x hx => (List.mem_append.1 hx).elim (ha x) (hb x)
theorem inF_bd {i : InD} (h : i.Bd) (hs : i.sec.length ≤ 64) (hx : 0 ≤ i.ix ∧ i.ix ≤ 15) : ∀ x ∈ inF i, 0 ≤ x ∧ x ≤ 255 :=
  bd_app h.tx (bd_app (numP_bd (by omega)) (bd_app (numP_bd (by have := h.am; omega)) (bd_app (numP_bd (by omega)) h.sec)))
theorem outF_bd {o : OutD} (h : o.Bd) : ∀ x ∈ outF o, 0 ≤ x ∧ x ≤ 255 := bd_app h.ow (numP_bd (by have := h.am; omega))
theorem formTx_bd {t : TxD} (hb : t.Bd) (h : longP t = false) : ∀ x ∈ formTx t, 0 ≤ x ∧ x ≤ 255 := by
  obtain ⟨h1, h2, h3, h4⟩ := longP_not h
  have f1 : ∀ x ∈ t.ins.flatMap inF, 0 ≤ x ∧ x ≤ 255 := fun x hx => by
    obtain ⟨i, hi, hx⟩ := List.mem_flatMap.1 hx
    exact inF_bd (hb.ins i hi) (h4 i hi).1 (h4 i hi).2 x hx
  have f2 : ∀ x ∈ t.outs.flatMap outF, 0 ≤ x ∧ x ≤ 255 := fun x hx => by
    obtain ⟨o, ho, hx⟩ := List.mem_flatMap.1 hx
    exact outF_bd (hb.outs o ho) x hx
  exact bd_app (bd_app (bd_app (bd_app (bd_app (numP_bd (by omega)) f1) (numP_bd (by omega))) f2) (numP_bd (by have := hb.fee; omega))) (numP_bd (by omega))

/-- May there be so many shards? -/
def okN (n : Int) : Bool := decide (1 ≤ n ∧ n ≤ 64)
/-- The shards of inputs, one by one. -/
def insP (t : TxD) (n : Int) : List Int := if checkP t = 0 ∧ okN n = true then t.ins.map fun i => ofO i.tx i.ix n else []
/-- The shards of outputs, one by one. -/
def outsP (t : TxD) (n : Int) : List Int := if checkP t = 0 ∧ okN n = true then (List.range t.outs.length).map fun k => ofO (idP t) (k : Nat) n else []
/-- Numbers below 64, rising, each once. -/
def eachP (l : List Int) : List Int := ((List.range 64).map fun (k : Nat) => (k : Int)).filter fun v => l.contains v
/-- The places of a number. -/
def placesP (l : List Int) (v : Int) : List Int := ((List.range l.length).filter fun i => l.getD i 0 == v).map fun (k : Nat) => (k : Int)

theorem ofO_bd (tx : List Int) (ix n : Int) (h : okN n = true) : 0 ≤ ofO tx ix n ∧ ofO tx ix n < n ∧ n ≤ 64 := by
  have hn : 1 ≤ n ∧ n ≤ 64 := by simpa [okN] using h
  unfold ofO
  split
  · exact ⟨Int.emod_nonneg _ (by omega), Int.emod_lt_of_pos _ (by omega), hn.2⟩
  · omega
theorem insP_bd (t : TxD) (n : Int) : ∀ x ∈ insP t n, 0 ≤ x ∧ x < n ∧ n ≤ 64 := by
  unfold insP
  split
  · rename_i h
    intro x hx
    obtain ⟨i, _, rfl⟩ := List.mem_map.1 hx
    exact ofO_bd _ _ n h.2
  · simp
theorem outsP_bd (t : TxD) (n : Int) : ∀ x ∈ outsP t n, 0 ≤ x ∧ x < n ∧ n ≤ 64 := by
  unfold outsP
  split
  · rename_i h
    intro x hx
    obtain ⟨i, _, rfl⟩ := List.mem_map.1 hx
    exact ofO_bd _ _ n h.2
  · simp
end Go.Proofs.YtdkanehjahpehaaGreatDoor
