/-
  scroll.Scan.
-/
import Derived.Test.YtohadeijmmmcdaaDoorScanA
namespace Go.Proofs.YtohadeijmmmcdaaDoor
open Go.RowKit
set_option maxRecDepth 100000
theorem apt33_of (xs : Array Value) (t : TypeId) : Builtin.append_ #[33, 33] t xs = APs #[33, 33] t xs := rfl
attribute [local go_sem ↓] ld115_of st115_of al115_of bd115_of slr_of apt33_of

/-- The slice v has the texts L, all in blocks of one's own. -/
def OwnT (B : Nat) (w : World) (v : Value) (L : List (List Int)) : Prop :=
  ∃ xs, w.ownsRow B 22 1 v L.length xs ∧ xs.length = L.length ∧ ∀ (i : Nat) (h : i < xs.length) (h' : i < L.length), Own8 B w xs[i] L[i]

section
variable {B : Nat} {w w' : World} {v : Value} {L : List (List Int)}
theorem OwnT.nil (B : Nat) (w : World) : OwnT B w (.slice none 0 0) [] := ⟨[], World.ownsRow_nil _ _ _ _, rfl, fun i h => by cases h⟩
theorem OwnT.form (h : OwnT B w v L) : ∃ A c, v = .slice A L.length c := by
  obtain ⟨xs, h1, _⟩ := h
  exact own_form h1
theorem OwnT.fr {F : Nat → Prop} (h : OwnT B w v L) (hf : Fr F w w') (hF : ∀ k t cs, F k → Blk w k t cs → t ≠ 22 ∧ t ≠ 5) : OwnT B w' v L := by
  obtain ⟨xs, h1, h2, h3⟩ := h
  refine ⟨xs, own_fr h1 hf (fun k hk f => ?_), h2, fun i hi hi' => (h3 i hi hi').fr hf (fun k hk f => ?_)⟩
  · obtain ⟨cs, hb, _⟩ := own_blk h1 hk
    exact (hF k _ _ f hb).1 rfl
  · obtain ⟨cs, hb, _⟩ := own_blk (h3 i hi hi') hk
    exact (hF k _ _ f hb).2 rfl
theorem OwnT.below (h : OwnT B w v L) (hb : Below w.heap.size w w') : OwnT B w' v L :=
  h.fr (Fr.of_below hb) (fun k t cs f hk => by have := hk.lt; omega)
theorem OwnT.base {B' : Nat} (h : OwnT B w v L) (hB : B' ≤ B) : OwnT B' w v L := by
  obtain ⟨xs, ⟨hl5, hh5⟩, h2, h3⟩ := h
  exact ⟨xs, ⟨hl5, hh5.imp id (fun ⟨g, cap, cur, h1, h2, h3⟩ => ⟨g, cap, cur, h1, Nat.le_trans hB h2, h3⟩)⟩, h2, fun i hi hi' => (h3 i hi hi').base hB⟩
theorem OwnT.lt (h : OwnT B w v L) {k : Nat} (hk : v.ownBlock = some k) : B ≤ k ∧ k < w.heap.size := by
  obtain ⟨xs, h1, _⟩ := h
  exact World.ownsRow.lt h1 k hk

theorem OwnT.ne (h : OwnT B w v L) {g : Nat} {t : TypeId} {cs : Array Value} (hb : Blk w g t cs) (ht : 22 ≠ t) : v.ownBlock ≠ some g := by
  obtain ⟨xs, h1, _⟩ := h
  exact own_ne h1 hb ht

/-- One text more. -/
theorem OwnT.app {ty : TypeId} (h : OwnT B w v L) {x : Value} {l : List Int} (hx : Own8 B w x l) (hlen : L.length + 1 ≤ 1000000000) (hB : B ≤ w.heap.size) :
    ∃ v' w', (APs #[33, 33] ty #[v, .slice (some ⟨w.heap.size, 0, none⟩) 1 1]).run Tryd.prog (w.alloc (.cells #[x] 22)) = .ok v' w' ∧ OwnT B w' v' (L ++ [l]) ∧ Fr (fun k => v.ownBlock = some k) w w' ∧ Foot w v v' := by
  obtain ⟨xs, h1, h2, h3⟩ := h
  have hx1 : x.oneCell' = true := by obtain ⟨A, c, rfl⟩ := hx.form; rfl
  obtain ⟨v', w', e1, e2, e3, e4⟩ := appT (ty := ty) h1 [x] (by intro u hu; simp at hu; subst hu; exact hx1) (by simpa using hlen) hB
  have hk : ∀ y l, Own8 B w y l → Own8 B w' y l := fun y l hy => hy.fr e3 (fun k hk f => by
    obtain ⟨cs, hb, _⟩ := own_blk h1 f
    obtain ⟨cs', hb', _⟩ := own_blk hy hk
    exact absurd (hb.inj hb').1 (by decide))
  refine ⟨v', w', e1, ⟨xs ++ [x], by simpa using e2, by simp [h2], fun i hi hi' => ?_⟩, e3, e4⟩
  by_cases hlt : i < xs.length
  · have := hk _ _ (h3 i hlt (by omega))
    rw [List.getElem_append_left hlt, List.getElem_append_left (by omega)]
    exact this
  · have : i = xs.length := by simp at hi; omega
    subst this
    simp only [List.getElem_append_right (Nat.le_refl _), Nat.sub_self, List.getElem_cons_zero]
    simp only [h2, List.getElem_append_right (Nat.le_refl _), Nat.sub_self, List.getElem_cons_zero]
    exact hk _ _ hx
end

/-- What Scan tells. -/
def scanR (S : DS) (f m t : Int) : List (List Int) × Nat × Int :=
  if strP S.sure.length f m = true ∧ 0 ≤ t ∧ t ≤ 1099511627776 then
    if S.off = true then ([], 0, 21) else ((scanAll t.toNat (stP S f.toNat m.toNat)).1, (scanAll t.toNat (stP S f.toNat m.toNat)).2, 0)
  else ([], 0, 1)

def ScanPost (n₀ : Nat) (R : List (List Int) × Nat × Int) (e : Ending) (w' : World) : Prop :=
  ∃ v, e = .returned (.tuple #[v, .int .i64 (R.2.1 : Int), .int .i64 R.2.2]) ∧ OwnT n₀ w' v R.1

/-- How far a scan has come. -/
def ScanAt (t : Nat) (bs : List Int) (u : Nat) (done : List (List Int)) : Prop :=
  64 * u ≤ bs.length ∧ done.length ≤ u ∧ ∃ fuel, (bs.drop (64 * u)).length < fuel ∧
    scanAll t bs = (done ++ (scanP t fuel (bs.drop (64 * u)) done.length).1, u + (scanP t fuel (bs.drop (64 * u)) done.length).2)
theorem ScanAt.start (t : Nat) (bs : List Int) : ScanAt t bs 0 [] := ⟨by omega, by simp, bs.length + 1, by simp, by simp [scanAll]⟩
theorem ScanAt.stop {t : Nat} {bs : List Int} {u : Nat} {done : List (List Int)} (h : ScanAt t bs u done) (hs : ∀ r, readP (bs.drop (64 * u)) = some r → ¬ (r.t = t ∧ r.n = done.length)) : scanAll t bs = (done, u) := by
  obtain ⟨_, _, fuel, hf, e⟩ := h
  have e2 : scanP t fuel (bs.drop (64 * u)) done.length = ([], 0) := by
    cases fuel with
    | zero => omega
    | succ k =>
      simp only [scanP]
      cases hr : readP (bs.drop (64 * u)) with
      | none => rfl
      | some r => simp only; rw [if_neg (hs r hr)]
  rw [e, e2]
  simp
theorem ScanAt.more {t : Nat} {bs : List Int} {u : Nat} {done : List (List Int)} (h : ScanAt t bs u done) {r : RecP} (hr : readP (bs.drop (64 * u)) = some r) (ht : r.t = t) (hn : r.n = done.length) : ScanAt t bs (u + r.size) (done ++ [r.b]) := by
  obtain ⟨h1, h2, fuel, hf, e⟩ := h
  have hs := readP_size hr
  simp only [List.length_drop] at hs hf
  refine ⟨by omega, by simp; omega, ?_⟩
  cases fuel with
  | zero => omega
  | succ k =>
    refine ⟨k, by simp; omega, ?_⟩
    rw [e]
    simp only [scanP, hr]
    rw [if_pos ⟨ht, hn⟩]
    simp only [List.append_assoc, List.singleton_append, List.length_append, List.length_singleton, List.drop_drop]
    rw [show 64 * u + 64 * r.size = 64 * (u + r.size) by omega, Nat.add_assoc]

end Go.Proofs.YtohadeijmmmcdaaDoor
