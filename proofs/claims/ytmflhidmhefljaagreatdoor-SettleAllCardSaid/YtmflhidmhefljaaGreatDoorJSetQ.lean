/-
  Right certificates by all shards of a transaction's inputs (plain).
-/
import Derived.Test.YtmflhidmhefljaaGreatDoorJRSetA
import Derived.Test.YtmflhidmhefljaaGreatDoorJAwakeZ

namespace Go.Proofs.YtmflhidmhefljaaGreatDoor
open Go.RowKit Go.Shelf
set_option maxRecDepth 100000

theorem sum_ge0 : ∀ (l : List Int), (∀ x ∈ l, 0 ≤ x) → 0 ≤ l.sum
  | [], _ => by simp
  | x :: l, h => by
    have h1 := h x (by simp)
    have h2 := sum_ge0 l fun y hy => h y (by simp [hy])
    rw [List.sum_cons]
    omega
theorem sum_ge1 : ∀ (l : List Int), (∀ x ∈ l, 1 ≤ x) → l ≠ [] → 1 ≤ l.sum
  | [], _, h => absurd rfl h
  | x :: l, h, _ => by
    have h1 := h x (by simp)
    have h2 := sum_ge0 l fun y hy => by have := h y (by simp [hy]); omega
    rw [List.sum_cons]
    omega
theorem allQ_sum : ∀ (l : List Int) (s : Int), (allQ s l).2 = 0 → (allQ s l).1 = s + l.sum
  | [], s, _ => by simp [allQ]
  | x :: l, s, h => by
    unfold allQ at h ⊢
    split at h
    · rename_i h0
      rw [if_pos h0, allQ_sum l _ h, List.sum_cons]
      have : (addQ s x).1 = s + x := by
        unfold addQ at h0 ⊢
        split at h0
        · cases h0
        · rename_i h1
          rw [if_neg h1]
      rw [this]
      omega
    · rename_i h0
      exact absurd h h0
theorem checkP_zero {t : TxD} (h : checkP t = 0) : longP t = false ∧ zeroP t = false ∧ sumsP t = 0 := by
  unfold checkP at h
  split at h
  · omega
  · rename_i h1
    split at h
    · omega
    · split at h
      · omega
      · rename_i h3
        exact ⟨by simpa using h1, by simpa using h3, h⟩
/-- The sum of what stands at some places of a row. -/
theorem place_le (f : Nat → Int) (hf : ∀ i, 0 ≤ f i) (s : Int) : ∀ (m : Nat) (L : List Int), L.length = m → 0 ≤ ((placesP L s).map fun j => f j.toNat).sum ∧ ((placesP L s).map fun j => f j.toNat).sum ≤ ((List.range m).map f).sum
  | 0, L, h => by
    obtain rfl := List.length_eq_zero_iff.1 h
    simp [placesP_nil]
  | m + 1, L, h => by
    obtain ⟨M, x, rfl⟩ := List.eq_nil_or_concat L |>.resolve_left (fun e => by subst e; simp at h)
    rw [List.concat_eq_append] at h ⊢
    have hm : M.length = m := by simpa using h
    have ih := place_le f hf s m M hm
    have h0 := hf m
    rw [placesP_snoc, List.map_append, List.sum_append, List.range_succ, List.map_append, List.sum_append]
    by_cases hx : x = s
    · rw [if_pos hx, hm]
      simp only [List.map_cons, List.map_nil, List.sum_cons, List.sum_nil, Int.toNat_natCast]
      omega
    · rw [if_neg hx]
      simp only [List.map_cons, List.map_nil, List.sum_cons, List.sum_nil]
      omega
theorem insQ_len {t : TxD} {k : Nat} (hc : checkP t = 0) (h1 : 1 ≤ k) (h2 : k ≤ 64) : (insP t k).length = t.ins.length := by
  unfold insP
  rw [if_pos ⟨hc, by simp [okN]; omega⟩, List.length_map]
/-- The sum at a shard of the inputs. -/
theorem sumAt_in {t : TxD} {k : Nat} (hb : t.Bd) (hc : checkP t = 0) (h1 : 1 ≤ k) (h2 : k ≤ 64) (s : Int) : 0 ≤ sumAtP t k s ∧ sumAtP t k s ≤ 4611686018427387904 ∧ (s ∈ insP t k → 1 ≤ sumAtP t k s) := by
  obtain ⟨hlong, hzero, hsum⟩ := checkP_zero hc
  have hl := insQ_len hc h1 h2
  have hf : ∀ i, 0 ≤ (fun (q : Nat) => (t.ins.getD q default).am) i := fun i => by
    show 0 ≤ (t.ins.getD i default).am
    by_cases h : i < t.ins.length
    · have := (hb.ins _ (List.getElem_mem h)).am
      simp [List.getD, h]
      omega
    · simp only [List.getD, List.getElem?_eq_none (Nat.le_of_not_lt h), Option.getD_none]
      show (0 : Int) ≤ (default : InD).am
      exact Int.le_refl _
  have hpl := place_le (fun (q : Nat) => (t.ins.getD q default).am) hf s _ (insP t k) rfl
  have hq : (allQ 0 (t.ins.map (·.am))).2 = 0 := by
    unfold sumsP at hsum
    split at hsum
    · rename_i h; exact absurd hsum h
    · rename_i h; simpa using h
  have hqs := allQ_sum _ _ hq
  have hqb := allQ_bd (t.ins.map (·.am)) 0 (fun x hx => by
    obtain ⟨i, hi, rfl⟩ := List.mem_map.1 hx
    exact (hb.ins i hi).am.1) (by omega) (by omega)
  have hr : (List.range t.ins.length).map (fun q => (t.ins.getD q default).am) = t.ins.map (·.am) := range_getD (·.am) default t.ins
  rw [hl, hr] at hpl
  have hm := sumAt_mod t k s
  have he : sumAtP t k s = ((placesP (insP t k) s).map fun j => (t.ins.getD j.toNat default).am).sum := by
    rw [hm]
    exact Int.emod_eq_of_lt hpl.1 (by omega)
  refine ⟨by rw [he]; exact hpl.1, by rw [he]; omega, fun hs => ?_⟩
  rw [he]
  refine sum_ge1 _ (fun x hx => ?_) (fun e => ?_)
  · obtain ⟨j, hj, rfl⟩ := List.mem_map.1 hx
    obtain ⟨i, rfl, hi⟩ := (placesP_mem _ _ _).1 hj
    have hil : i < t.ins.length := by rw [← hl]; exact (List.getElem?_eq_some_iff.1 hi).1
    have hne : (t.ins[i]).am ≠ 0 := fun h0 => by
      unfold zeroP at hzero
      have : (t.ins.map (·.am)).contains 0 = true := List.contains_iff_mem.2 (List.mem_map.2 ⟨_, List.getElem_mem hil, h0⟩)
      rw [this] at hzero
      simp at hzero
    have := (hb.ins _ (List.getElem_mem hil)).am
    simp [List.getD, hil]
    omega
  · have := (placesP_pos (insP t k) s).2 hs
    rw [List.map_eq_nil_iff] at e
    rw [e] at this
    simp at this
/-- The shards of the inputs: one at least, each below k. -/
theorem each_in {t : TxD} {k : Nat} (hc : checkP t = 0) (h1 : 1 ≤ k) (h2 : k ≤ 64) : 1 ≤ (eachP (insP t k)).length ∧ (eachP (insP t k)).length ≤ 64 ∧ ∀ s ∈ eachP (insP t k), s ∈ insP t k ∧ 0 ≤ s ∧ s < k := by
  obtain ⟨hlong, _, _⟩ := checkP_zero hc
  have hl := insQ_len hc h1 h2
  have hn : 1 ≤ t.ins.length := by
    unfold longP at hlong
    simp only [Bool.or_eq_false_iff, Bool.not_eq_false', decide_eq_true_eq] at hlong
    exact hlong.1.1
  refine ⟨?_, eachP_len _, fun s hs => ?_⟩
  · have h0 : 0 < (insP t k).length := by omega
    have hm := List.getElem_mem h0
    have hb := insP_bd64 _ hm
    have : (insP t k)[0] ∈ eachP (insP t k) := (eachP_mem _ _).2 ⟨hm, hb.1, by omega⟩
    exact List.length_pos_of_mem this
  · have := (eachP_mem _ _).1 hs
    exact ⟨this.1, insP_bd64 _ this.1⟩
theorem each_has {t : TxD} {k : Nat} (h2 : k ≤ 64) (s : Int) : (eachP (insP t k)).contains s = (insP t k).contains s := by
  rw [Bool.eq_iff_iff, List.contains_iff_mem, List.contains_iff_mem, eachP_mem]
  refine ⟨fun h => h.1, fun h => ⟨h, ?_⟩⟩
  have := insP_bd64 _ h
  omega

/-- The entry of a kind about a transaction at a shard. -/
def entO (t : TxD) (n kind s : Int) : EntD := ⟨kind, s, idP t, if kind = 1 then sumAtP t n s else 0, 0, 0⟩
def certO (seed : List Int) (t : TxD) (n kind : Int) (i : Nat) (s : Int) : CertD := (madeP seed [(i : Int)] (entO t n kind s) 7).1
/-- The first certificates. -/
def certsTo (seed : List Int) (t : TxD) (n kind : Int) (j : Nat) : List CertD := (List.range j).map fun i => certO seed t n kind i ((eachP (insP t n)).getD i 0)
theorem certsTo_zero (seed : List Int) (t : TxD) (n kind : Int) : certsTo seed t n kind 0 = [] := rfl
theorem certsTo_succ (seed : List Int) (t : TxD) (n kind : Int) (j : Nat) : certsTo seed t n kind (j + 1) = certsTo seed t n kind j ++ [certO seed t n kind j ((eachP (insP t n)).getD j 0)] := by
  unfold certsTo
  rw [List.range_succ, List.map_append]
  rfl
theorem certsTo_len (seed : List Int) (t : TxD) (n kind : Int) (j : Nat) : (certsTo seed t n kind j).length = j := by simp [certsTo]
theorem dig_id (t : TxD) : Dig (idP t) := ⟨idP_len _, idP_bd _⟩
section
variable {t : TxD} {k : Nat} {kind s : Int} {seed : List Int}
theorem entO_bd (hk : kind = 1 ∨ kind = 2) (hs : 0 ≤ s ∧ s < 64) : (entO t k kind s).Bd := by
  have h0 := sumAt_bd t k s
  refine ⟨?_, ?_, dig_id t, ?_, by simp [entO, InI], by simp [entO, InI]⟩
  · unfold entO InI; simp only; omega
  · unfold entO InI; simp only; omega
  · unfold entO; simp only; split <;> omega
theorem entO_right (hb : t.Bd) (hc : checkP t = 0) (h1 : 1 ≤ k) (h2 : k ≤ 64) (hk : kind = 1 ∨ kind = 2) (hs : 0 ≤ s ∧ s < k) : rightE (entO t k kind s) = true := by
  have h0 := sumAt_in hb hc h1 h2 s
  refine (rightE_iff _).2 ⟨?_, ?_, ?_, ?_, ?_⟩
  · unfold entO; simp only; omega
  · unfold entO; simp only; omega
  · unfold entO; simp only; split <;> omega
  · unfold entO; simp
  · unfold entO; simp
theorem made_e {cmd : List Int} {e : EntD} {iss : Nat} (hr : rightE e = true) (hi : iss ≤ 4611686018427387904) : (madeP seed cmd e iss).1.e = e := by rw [madeP_yes hr hi]
theorem made_path {cmd : List Int} {e : EntD} {iss : Nat} (hr : rightE e = true) (hi : iss ≤ 4611686018427387904) : (madeP seed cmd e iss).1.path.length = 2 := by rw [madeP_yes hr hi]; rfl
end
theorem allGo_true (seed : List Int) (t : TxD) (n : Int) : ∀ (S : List Int) (L : List CertD), (∀ i (h1 : i < S.length) (h2 : i < L.length), allOne seed t n S[i] L[i] = true) → allGo seed t n S L = true
  | [], _, _ => by unfold allGo; rfl
  | _ :: _, [], _ => by unfold allGo; rfl
  | s :: S, c :: L, h => by
    unfold allGo
    rw [h 0 (by simp) (by simp) |> (fun e => (show allOne seed t n s c = true from e)), allGo_true seed t n S L fun i h1 h2 => h (i + 1) (by simpa using h1) (by simpa using h2)]
    rfl
theorem allGo_false (seed : List Int) (t : TxD) (n : Int) : ∀ (S : List Int) (L : List CertD) (i : Nat) (h1 : i < S.length) (h2 : i < L.length), allOne seed t n S[i] L[i] = false → allGo seed t n S L = false
  | [], _, _, h, _, _ => absurd h (by simp)
  | _ :: _, [], _, _, h, _ => absurd h (by simp)
  | s :: S, c :: L, 0, _, _, h => by
    unfold allGo
    rw [show allOne seed t n s c = false from h]
    rfl
  | s :: S, c :: L, i + 1, h1, h2, h => by
    unfold allGo
    rw [allGo_false seed t n S L i (by simpa using h1) (by simpa using h2) h]
    simp
section
variable {t : TxD} {k : Nat} {seed : List Int}
theorem acc_few (hc : checkP t = 0) (h1 : 1 ≤ k) (h2 : k ≤ 64) {L : List CertD} (h : L.length ≠ (eachP (insP t k)).length) : accP' seed t k L = 27 := by
  unfold accP'
  rw [if_neg (by omega), if_neg (by omega), if_pos h]
theorem acc_bad (hc : checkP t = 0) (h1 : 1 ≤ k) (h2 : k ≤ 64) {L : List CertD} (h : L.length = (eachP (insP t k)).length) (i : Nat) (hi : i < L.length) (hb : allOne seed t k ((eachP (insP t k))[i]'(by omega)) L[i] = false) : accP' seed t k L = 16 := by
  unfold accP'
  rw [if_neg (by omega), if_neg (by omega), if_neg (by omega), if_neg]
  rw [allGo_false seed t k _ _ i (by omega) hi hb]
  simp
theorem certsTo_get (kind : Int) {i j : Nat} (hij : i < j) (hj : j ≤ (eachP (insP t k)).length) : (certsTo seed t k kind j)[i]'(by rw [certsTo_len]; exact hij) = certO seed t k kind i ((eachP (insP t k))[i]'(by omega)) := by
  unfold certsTo
  rw [List.getElem_map, List.getElem_range]
  have : i < (eachP (insP t k)).length := by omega
  simp [List.getD, this]
theorem acc_right (hb : t.Bd) (hc : checkP t = 0) (h1 : 1 ≤ k) (h2 : k ≤ 64) : accP' seed t k (certsTo seed t k 1 (eachP (insP t k)).length) = 0 := by
  obtain ⟨_, _, hE⟩ := each_in hc h1 h2
  unfold accP'
  rw [if_neg (by omega), if_neg (by omega), if_neg (by rw [certsTo_len]; simp), if_pos]
  refine allGo_true _ _ _ _ _ fun i hi _ => ?_
  rw [certsTo_get 1 hi (Nat.le_refl _)]
  obtain ⟨s, hs⟩ : ∃ s, (eachP (insP t k))[i] = s := ⟨_, rfl⟩
  obtain ⟨_, hs0⟩ := hE _ (List.getElem_mem hi)
  rw [hs] at hs0 ⊢
  have hr := entO_right (kind := 1) (s := s) hb hc h1 h2 (.inl rfl) hs0
  unfold allOne certO
  rw [made_is seed [(i : Int)] _ 7 k hr (by omega) hs0.2, made_e hr (by omega)]
  simp [entO]
/-- One that differs. -/
theorem one_bad {n s : Int} {c : CertD} (h : c.e.kind ≠ 1 ∨ c.e.tx ≠ idP t ∨ c.e.am ≠ sumAtP t n s) : allOne seed t n s c = false := by
  unfold allOne
  rcases h with h | h | h <;> simp [h]
theorem rej_of {n : Int} {c : CertD} (hc : checkP t = 0) (hn : 1 ≤ n ∧ n ≤ 64) : rejP seed t n [c] = if rejOne seed t n c = true then 0 else 16 := by
  unfold rejP
  rw [if_neg (by omega), if_neg (by omega), if_neg (by simp)]
  rfl
theorem rej_many {n : Int} {L : List CertD} (hc : checkP t = 0) (hn : 1 ≤ n ∧ n ≤ 64) (h : L.length ≠ 1) : rejP seed t n L = 27 := by
  unfold rejP
  rw [if_neg (by omega), if_neg (by omega), if_pos h]
end
end Go.Proofs.YtmflhidmhefljaaGreatDoor
