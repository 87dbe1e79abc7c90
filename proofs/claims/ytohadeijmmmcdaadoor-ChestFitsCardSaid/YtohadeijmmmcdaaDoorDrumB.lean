/-
  The drum, plainly: what is sure, what waits, the fuse, the power. No program in sight.
  The drum in memory; Sync.
-/
import Derived.Test.YtohadeijmmmcdaaDoorDrumA

section
namespace Go.Proofs.YtohadeijmmmcdaaDoor

structure DS where
  sure : List (List Int)
  waits : List (Nat × List Int)
  fuse : Int
  off : Bool

/-- A sector's bytes. -/
def Sec (s : List Int) : Prop := s.length = 64 ∧ ∀ v ∈ s, 0 ≤ v ∧ v ≤ 255

structure DS.Ok (S : DS) : Prop where
  n1 : 1 ≤ S.sure.length
  n2 : S.sure.length ≤ 8192
  sure : ∀ s ∈ S.sure, Sec s
  waits : ∀ x ∈ S.waits, x.1 < S.sure.length ∧ Sec x.2
  f0 : 0 ≤ S.fuse
  f1 : S.fuse ≤ 9223372036854775807

/-- What a fuse is behind one use. -/
def dec (f : Int) : Int := if f = 0 then 0 else f - 1
theorem dec_bd {f : Int} (h0 : 0 ≤ f) (h1 : f ≤ 9223372036854775807) : 0 ≤ dec f ∧ dec f ≤ 9223372036854775807 := by
  unfold dec; split <;> omega

/-- What sector k has, d being what is sure. -/
def lastAt (k : Nat) (d : List Int) : List (Nat × List Int) → List Int
  | [] => d
  | x :: r => lastAt k (if x.1 = k then x.2 else d) r
theorem lastAt_snoc (k : Nat) : ∀ (l : List (Nat × List Int)) (d : List Int) (x : Nat × List Int), lastAt k d (l ++ [x]) = if x.1 = k then x.2 else lastAt k d l
  | [], d, x => rfl
  | y :: l, d, x => by simp only [List.cons_append, lastAt]; exact lastAt_snoc k l _ x
def DS.now (S : DS) (k : Nat) : List Int := lastAt k (S.sure.getD k []) S.waits

/-- The writes gone through. -/
def applyAll (L : List (List Int)) : List (Nat × List Int) → List (List Int)
  | [] => L
  | x :: r => applyAll (L.set x.1 x.2) r
theorem applyAll_snoc : ∀ (l : List (Nat × List Int)) (L : List (List Int)) (x : Nat × List Int), applyAll L (l ++ [x]) = (applyAll L l).set x.1 x.2
  | [], L, x => rfl
  | y :: l, L, x => by simp only [List.cons_append, applyAll]; exact applyAll_snoc l _ x
theorem applyAll_len : ∀ (l : List (Nat × List Int)) (L : List (List Int)), (applyAll L l).length = L.length
  | [], L => rfl
  | y :: l, L => by simp only [applyAll]; rw [applyAll_len l]; simp
theorem applyAll_sec : ∀ (l : List (Nat × List Int)) (L : List (List Int)), (∀ s ∈ L, Sec s) → (∀ x ∈ l, Sec x.2) → ∀ s ∈ applyAll L l, Sec s
  | [], L, h, _ => h
  | y :: l, L, h, h2 => by
    simp only [applyAll]
    refine applyAll_sec l _ (fun s hs => ?_) (fun x hx => h2 x (by simp [hx]))
    rcases List.mem_or_eq_of_mem_set hs with h3 | h3
    · exact h s h3
    · rw [h3]; exact h2 y (by simp)
/-- Behind them a sector has what it had. -/
theorem applyAll_get (k : Nat) : ∀ (l : List (Nat × List Int)) (L : List (List Int)), k < L.length → (applyAll L l).getD k [] = lastAt k (L.getD k []) l
  | [], L, _ => rfl
  | y :: l, L, hk => by
    simp only [applyAll, lastAt]
    rw [applyAll_get k l (L.set y.1 y.2) (by simpa using hk)]
    congr 1
    by_cases h : y.1 = k
    · subst h; simp [List.getD, hk]
    · simp [List.getD, h, List.getElem?_set_ne]

/-- Which words of b land on a. -/
def landW (a b : List Int) (mask : Nat) : List Int := (List.range 64).map fun j => if mask / 2 ^ (j / 8) % 2 = 1 then b.getD j 0 else a.getD j 0

/-- The k-th mask. -/
def maskAt (M : List Int) (k : Nat) : Nat := if k < M.length then (M.getD k 0).toNat else 255

/-- The writes gone through when the power is on again, from the k-th on. -/
def landAll (M : List Int) : Nat → List (List Int) → List (Nat × List Int) → List (List Int)
  | _, L, [] => L
  | k, L, x :: r => landAll M (k + 1) (L.set x.1 (landW (L.getD x.1 []) x.2 (maskAt M k))) r
theorem landAll_snoc (M : List Int) : ∀ (l : List (Nat × List Int)) (k : Nat) (L : List (List Int)) (x : Nat × List Int),
    landAll M k L (l ++ [x]) = (landAll M k L l).set x.1 (landW ((landAll M k L l).getD x.1 []) x.2 (maskAt M (k + l.length)))
  | [], k, L, x => rfl
  | y :: l, k, L, x => by
    simp only [List.cons_append, landAll]
    rw [landAll_snoc M l (k + 1)]
    simp only [List.length_cons]
    rw [show k + 1 + l.length = k + (l.length + 1) by omega]
theorem landAll_len (M : List Int) : ∀ (l : List (Nat × List Int)) (k : Nat) (L : List (List Int)), (landAll M k L l).length = L.length
  | [], _, L => rfl
  | y :: l, k, L => by simp only [landAll]; rw [landAll_len M l]; simp
theorem landW_sec {a b : List Int} (m : Nat) (ha : Sec a) (hb : Sec b) : Sec (landW a b m) := by
  refine ⟨by simp [landW], fun v hv => ?_⟩
  obtain ⟨j, hj, rfl⟩ := List.mem_map.1 hv
  have hj' := List.mem_range.1 hj
  have e1 : a.getD j 0 ∈ a := by
    have : j < a.length := by rw [ha.1]; exact hj'
    simp [List.getD, this]
  have e2 : b.getD j 0 ∈ b := by
    have : j < b.length := by rw [hb.1]; exact hj'
    simp [List.getD, this]
  split
  · exact hb.2 _ e2
  · exact ha.2 _ e1
theorem getD_mem {L : List (List Int)} {k : Nat} (h : k < L.length) : L.getD k [] ∈ L := by simp [List.getD, h]
theorem landAll_sec (M : List Int) : ∀ (l : List (Nat × List Int)) (k : Nat) (L : List (List Int)), (∀ s ∈ L, Sec s) → (∀ x ∈ l, x.1 < L.length ∧ Sec x.2) → ∀ s ∈ landAll M k L l, Sec s
  | [], _, L, h, _ => h
  | y :: l, k, L, h, h2 => by
    simp only [landAll]
    have hy := h2 y (by simp)
    refine landAll_sec M l _ _ (fun s hs => ?_) (fun x hx => by simpa using h2 x (by simp [hx]))
    rcases List.mem_or_eq_of_mem_set hs with h3 | h3
    · exact h s h3
    · rw [h3]; exact landW_sec _ (h _ (getD_mem hy.1)) hy.2
/-- All eight words. -/
theorem landW_all {a b : List Int} (hb : b.length = 64) : landW a b 255 = b := by
  apply List.ext_getElem
  · simp [landW, hb]
  · intro i h1 h2
    have hi : i < 64 := by simpa [landW] using h1
    have hm : 255 / 2 ^ (i / 8) % 2 = 1 := by
      have : i / 8 < 8 := by omega
      rcases (show i / 8 = 0 ∨ i / 8 = 1 ∨ i / 8 = 2 ∨ i / 8 = 3 ∨ i / 8 = 4 ∨ i / 8 = 5 ∨ i / 8 = 6 ∨ i / 8 = 7 by omega) with h | h | h | h | h | h | h | h <;> rw [h]
    simp [landW, hm, List.getD, h2]

/-- Write's answer, and what is behind it. -/
def DS.write (S : DS) (k : Int) (b : List Int) : Int × DS :=
  if S.off then (21, S) else if k < 0 ∨ S.sure.length ≤ k then (5, S) else if b.length ≠ 64 then (1, S)
  else if S.fuse = 1 then (20, { S with fuse := 0, off := true }) else (0, { S with fuse := dec S.fuse, waits := S.waits ++ [(k.toNat, b)] })
/-- Sync's. -/
def DS.sync (S : DS) : Int × DS :=
  if S.off then (21, S) else if S.fuse = 1 then (20, { S with fuse := 0, off := true }) else (0, { S with fuse := dec S.fuse, sure := applyAll S.sure S.waits, waits := [] })
/-- Start's. -/
def DS.start (S : DS) (M : List Int) : DS := { sure := landAll M 0 S.sure S.waits, waits := [], fuse := 0, off := false }
/-- Read's answer. -/
def DS.read (S : DS) (k : Int) : List Int × Int := if S.off then ([], 21) else if k < 0 ∨ S.sure.length ≤ k then ([], 5) else (S.now k.toNat, 0)
/-- A drum at first. -/
def DS.new (n : Nat) : DS := { sure := List.replicate n (List.replicate 64 0), waits := [], fuse := 0, off := false }

theorem DS.new_ok {n : Nat} (h1 : 1 ≤ n) (h2 : n ≤ 8192) : (DS.new n).Ok := by
  refine ⟨by simp [DS.new, h1], by simp [DS.new, h2], ?_, by simp [DS.new], by simp [DS.new], by simp [DS.new]⟩
  intro s hs
  simp [DS.new] at hs
  obtain ⟨_, rfl⟩ := hs
  exact ⟨by simp, fun v hv => by simp at hv; omega⟩
theorem DS.write_ok {S : DS} (h : S.Ok) (k : Int) {b : List Int} (hb : ∀ v ∈ b, 0 ≤ v ∧ v ≤ 255) : (S.write k b).2.Ok := by
  unfold DS.write
  split
  · exact h
  split
  · exact h
  split
  · exact h
  split
  · exact ⟨h.n1, h.n2, h.sure, h.waits, by simp, by simp⟩
  · rename_i h2 h3 _
    refine ⟨h.n1, h.n2, h.sure, fun x hx => ?_, (dec_bd h.f0 h.f1).1, (dec_bd h.f0 h.f1).2⟩
    simp only [List.mem_append, List.mem_singleton] at hx
    rcases hx with hx | rfl
    · exact h.waits x hx
    · exact ⟨by show k.toNat < S.sure.length; omega, by simpa using h3, hb⟩
theorem DS.sync_ok {S : DS} (h : S.Ok) : S.sync.2.Ok := by
  unfold DS.sync
  split
  · exact h
  split
  · exact ⟨h.n1, h.n2, h.sure, h.waits, by simp, by simp⟩
  · exact ⟨by simpa [applyAll_len] using h.n1, by simpa [applyAll_len] using h.n2, applyAll_sec _ _ h.sure (fun x hx => (h.waits x hx).2), by simp, (dec_bd h.f0 h.f1).1, (dec_bd h.f0 h.f1).2⟩
theorem DS.start_ok {S : DS} (h : S.Ok) (M : List Int) : (S.start M).Ok :=
  ⟨by simpa [DS.start, landAll_len] using h.n1, by simpa [DS.start, landAll_len] using h.n2, landAll_sec M _ _ _ h.sure h.waits, by simp [DS.start], by simp [DS.start], by simp [DS.start]⟩
theorem lastAt_sec (k : Nat) : ∀ (l : List (Nat × List Int)) (d : List Int), Sec d → (∀ x ∈ l, Sec x.2) → Sec (lastAt k d l)
  | [], d, h, _ => h
  | y :: l, d, h, h2 => by
    simp only [lastAt]
    refine lastAt_sec k l _ ?_ (fun x hx => h2 x (by simp [hx]))
    split
    · exact h2 y (by simp)
    · exact h
theorem DS.now_sec {S : DS} (h : S.Ok) {k : Nat} (hk : k < S.sure.length) : Sec (S.now k) := lastAt_sec k _ _ (h.sure _ (getD_mem hk)) (fun x hx => (h.waits x hx).2)

theorem lastAt_none (k : Nat) : ∀ (l : List (Nat × List Int)) (d : List Int), (∀ y ∈ l, y.1 ≠ k) → lastAt k d l = d
  | [], _, _ => rfl
  | y :: l, d, h => by
    simp only [lastAt]
    rw [if_neg (h y (by simp))]
    exact lastAt_none k l d (fun z hz => h z (by simp [hz]))
theorem lastAt_at (k : Nat) : ∀ (l : List (Nat × List Int)) (d : List Int) (i : Nat) (hi : i < l.length), l[i].1 = k → (∀ j, (hj : j < l.length) → i < j → l[j].1 ≠ k) → lastAt k d l = l[i].2
  | [], _, i, hi, _, _ => by simp at hi
  | y :: l, d, 0, _, h, hn => by
    simp only [lastAt]
    simp only [List.getElem_cons_zero] at h ⊢
    rw [if_pos h]
    refine lastAt_none k l _ (fun z hz => ?_)
    obtain ⟨j, hj, rfl⟩ := List.getElem_of_mem hz
    exact hn (j + 1) (by simpa using hj) (by omega)
  | y :: l, d, i + 1, hi, h, hn => by
    simp only [lastAt, List.getElem_cons_succ] at h ⊢
    exact lastAt_at k l _ i (by simpa using hi) h (fun j hj hij => hn (j + 1) (by simpa using hj) (by omega))

end Go.Proofs.YtohadeijmmmcdaaDoor
end

section
namespace Go.Proofs.YtohadeijmmmcdaaDoor
open Go.RowKit
set_option maxRecDepth 100000

/-- A write that waits, as cells. -/
def wrow (x : Nat × List Int) : List Value := .int .i64 (x.1 : Int) :: bys x.2
theorem wrow_len {x : Nat × List Int} (h : x.2.length = 64) : (wrow x).length = 65 := by simp [wrow, bys_length, h]
theorem wrow_one (x : Nat × List Int) : ∀ v ∈ wrow x, v.oneCell' = true := by
  intro v hv
  simp only [wrow, List.mem_cons] at hv
  rcases hv with rfl | hv
  · rfl
  · exact bys_one _ v hv

/-- The drum S lies at p: what is sure in block gs, what waits in the row wv; its own blocks lie from B on. -/
structure IsDrum (B : Nat) (w : World) (p gs : Nat) (wv : Value) (S : DS) : Prop where
  ok : S.Ok
  b1 : B ≤ p
  b2 : B ≤ gs
  st : DrumB w p (.slice (some ⟨gs, 0, none⟩) S.sure.length S.sure.length) wv S.fuse S.off
  sure : Blk w gs 119 (bys S.sure.flatten).toArray
  waits : w.ownsRow B 121 65 wv S.waits.length (S.waits.map wrow).flatten

/-- The drum's own blocks. -/
def DF (p gs : Nat) (wv : Value) (k : Nat) : Prop := k = p ∨ k = gs ∨ wv.ownBlock = some k

section
variable {B : Nat} {w w' : World} {p gs : Nat} {wv : Value} {S : DS}
theorem IsDrum.ne1 (h : IsDrum B w p gs wv S) : p ≠ gs := Blk.ne_ h.st h.sure (by decide)
theorem own_blk {base : Nat} {e : TypeId} {size n : Nat} {v : Value} {xs : List Value} (h : w.ownsRow base e size v n xs) {g : Nat} (hg : v.ownBlock = some g) : ∃ cs, Blk w g e cs ∧ base ≤ g := by
  rcases h.2 with ⟨rfl, _⟩ | ⟨g', cap, cur, rfl, hb, hh, _⟩
  · cases hg
  · simp [Value.ownBlock] at hg
    subst hg
    exact ⟨cur, hh, hb⟩
theorem own_ne {base : Nat} {e t : TypeId} {size n g : Nat} {v : Value} {xs : List Value} {cs : Array Value} (h : w.ownsRow base e size v n xs) (hb : Blk w g t cs) (hne : e ≠ t) : v.ownBlock ≠ some g := by
  intro he
  obtain ⟨cs', hb', _⟩ := own_blk h he
  exact hne (hb'.inj hb).1
theorem own_fr {base : Nat} {e : TypeId} {size n : Nat} {v : Value} {xs : List Value} {F : Nat → Prop} (h : w.ownsRow base e size v n xs) (hf : Fr F w w') (hn : ∀ k, v.ownBlock = some k → ¬ F k) : w'.ownsRow base e size v n xs := by
  refine ⟨h.1, ?_⟩
  rcases h.2 with hn' | ⟨g, cap, cur, rfl, hb, hgg, rest⟩
  · exact .inl hn'
  · exact .inr ⟨g, cap, cur, rfl, hb, (hf.block g (Array.getElem?_eq_some_iff.1 hgg).1 (hn g rfl)).trans hgg, rest⟩
theorem IsDrum.ne2 (h : IsDrum B w p gs wv S) : wv.ownBlock ≠ some p := own_ne h.waits h.st (by decide)
theorem IsDrum.ne3 (h : IsDrum B w p gs wv S) : wv.ownBlock ≠ some gs := own_ne h.waits h.sure (by decide)
/-- A drum that nothing touches. -/
theorem IsDrum.fr {F : Nat → Prop} (h : IsDrum B w p gs wv S) (hf : Fr F w w') (hn : ∀ k, DF p gs wv k → ¬ F k) : IsDrum B w' p gs wv S :=
  ⟨h.ok, h.b1, h.b2, Blk.fr h.st hf (hn _ (.inl rfl)), h.sure.fr hf (hn _ (.inr (.inl rfl))), own_fr h.waits hf (fun _ hk => hn _ (.inr (.inr hk)))⟩
theorem IsDrum.lt (h : IsDrum B w p gs wv S) {k : Nat} (hk : DF p gs wv k) : B ≤ k ∧ k < w.heap.size := by
  rcases hk with rfl | rfl | hk
  · exact ⟨h.b1, Blk.lt h.st⟩
  · exact ⟨h.b2, h.sure.lt⟩
  · exact h.waits.lt k hk
end

theorem u54 : Tryd.prog.underlying 119 = some (.array 64 5) := by kernel_rfl
theorem i60 : (Tryd.prog.info? 119).map (·.size) = some 64 := by kernel_rfl
theorem i62 : (Tryd.prog.info? 121).map (·.size) = some 65 := by kernel_rfl
theorem u62 : (Tryd.prog.underlying 121).map isAggD = some true := by kernel_rfl
theorem z62 : (((Tryd.prog.info? 121).bind (·.zero)).map (·.cells.size)) = some 65 := by kernel_rfl
theorem z60 : (((Tryd.prog.info? 119).bind (·.zero)).map (·.cells.size)) = some 64 := by kernel_rfl

theorem ld62 (v : Value) : Instr.loadAt 121 v = LDs 121 v := rfl
theorem ld60 (v : Value) : Instr.loadAt 119 v = LDs 119 v := rfl
theorem st62 (v x : Value) : Instr.storeAt 121 v x = STs 121 v x := rfl
theorem st60 (v x : Value) : Instr.storeAt 119 v x = STs 119 v x := rfl
theorem al62 : Instr.alloc 121 true (.tuple #[]) = ALs 121 := rfl
theorem al60 : Instr.alloc 119 true (.tuple #[]) = ALs 119 := rfl

/-- What waits, read at i. -/
theorem load_wait {B : Nat} {w : World} {v : Value} {l : List (Nat × List Int)} (h : w.ownsRow B 121 65 v l.length (l.map wrow).flatten) (hs : ∀ x ∈ l, x.2.length = 64) (i : Nat) (hi : i < l.length) :
    ∃ g cap, v = .slice (some ⟨g, 0, none⟩) l.length cap ∧ g < w.heap.size ∧ ∀ W : World, W.heap[g]? = w.heap[g]? → (LDs 121 (.pointer (some ⟨g, i * 65, none⟩))).run Tryd.prog W = .ok (.agg (wrow l[i]).toArray) W := by
  rcases h.2 with ⟨_, h0⟩ | ⟨g, cap, cur, rfl, hb, hh, hn, hm, hsz, htake⟩
  · omega
  · obtain ⟨d, hu, hd⟩ := Option.map_eq_some_iff.1 u62
    refine ⟨g, cap, rfl, (Array.getElem?_eq_some_iff.1 hh).1, fun W hW => ?_⟩
    refine LDs_blk (cs := cur) hu hd i62 (hW.trans hh) (wrow l[i]) (wrow_len (hs _ (List.getElem_mem _))) ?_
    have hf := flat_drop_take 65 (l.map wrow) (fun s hs' => by
      obtain ⟨x, hx, rfl⟩ := List.mem_map.1 hs'
      exact wrow_len (hs x hx)) i (by simpa using hi)
    rw [List.getElem_map] at hf
    rw [← hf, ← htake, List.drop_take, List.take_take]
    congr 1
    have : (i + 1) * 65 ≤ l.length * 65 := Nat.mul_le_mul_right _ hi
    omega

attribute [local go_sem ↓] ld62 ld60 st62 st60 al62 al60

theorem own_form {base : Nat} {w : World} {e : TypeId} {size n : Nat} {v : Value} {xs : List Value} (h : w.ownsRow base e size v n xs) : ∃ A cap, v = .slice A n cap := by
  rcases h.2 with ⟨rfl, rfl⟩ | ⟨g, cap, cur, rfl, _⟩
  · exact ⟨_, _, rfl⟩
  · exact ⟨_, _, rfl⟩

/-- A sector laid over what is sure. -/
theorem splice_sec (L : List (List Int)) (hL : ∀ s ∈ L, s.length = 64) (k : Nat) (hk : k < L.length) (b : List Int) (hb : b.length = 64) : splice (bys L.flatten).toArray (k * 64) (bys b) = (bys (L.set k b).flatten).toArray := by
  unfold splice
  rw [bys_length, hb, bys_take, bys_drop, ← bys_app, ← bys_app, flat_splice 64 L hL k hk b hb]

/-- The fuse doesn't end here. -/
theorem burns_go (p : Nat) (sv wv : Value) (fuse : Int) (w : World) (h : DrumB w p sv wv fuse false) (hf : fuse ≠ 1) (h0 : 0 ≤ fuse) (h1 : fuse ≤ 9223372036854775807) :
    Calls Tryd.prog 66 #[.pointer (some ⟨p, 0, none⟩)] w fun e w' => e = .returned (.bool false) ∧ DrumB w' p sv wv (dec fuse) false ∧ Fr (fun k => k = p) w w' := by
  by_cases hz : fuse = 0
  · subst hz
    refine (burns_none p sv wv false w h).mono ?_
    rintro e w' ⟨rfl, rfl⟩
    exact ⟨rfl, h, Fr.refl _ _⟩
  · refine (burns_more p sv wv fuse false w h (by omega) h1).mono ?_
    rintro e w' ⟨rfl, h2, h3⟩
    refine ⟨rfl, ?_, h3⟩
    unfold dec
    rw [if_neg hz]
    exact h2

set_option maxHeartbeats 1000000 in
theorem sync_ok (B : Nat) (p gs : Nat) (wv : Value) (S : DS) (w : World) (h : IsDrum B w p gs wv S) (hoff : S.off = false) (hf : S.fuse ≠ 1) (hlen : S.waits.length ≤ 1000000000) :
    Calls Tryd.prog 68 #[.pointer (some ⟨p, 0, none⟩)] w fun e w' => e = .returned (.int .i64 0) ∧ IsDrum B w' p gs (.slice none 0 0) S.sync.2 ∧ Fr (DF p gs wv) w w' := by
  obtain ⟨A, cap, hwv⟩ := own_form h.waits
  have H := Lib.hid h
  have hst := h.st
  rw [hoff] at hst
  have hbg := burns_go p _ wv S.fuse w hst hf h.ok.f0 h.ok.f1
  have c3 : w.cell? ⟨p, 3, none⟩ = some (.bool false) := hst.c3
  have HW := Lib.hid hwv
  have HO := Lib.hid hoff
  have HF1 := Lib.hid hf
  clear h hoff hf hst hwv
  go_enter Tryd.func68, Tryd.ntmps68
  go_wp2_with fail
  refine hbg.mono ?_
  clear hbg
  rintro e w1 ⟨rfl, hd1, hf1⟩
  have c1 : w1.cell? ⟨p, 1, none⟩ = some (.slice A S.waits.length cap) := by rw [← HW.out]; exact hd1.c1
  have f1 := Blk.frozen hd1 1
  have HD := Lib.hid hd1
  have HF := Lib.hid hf1
  have hw1 : w1.ownsRow B 121 65 wv S.waits.length (S.waits.map wrow).flatten := own_fr H.out.waits hf1 (fun k hk e => H.out.ne2 (e ▸ hk))
  have hs1 : Blk w1 gs 119 (bys S.sure.flatten).toArray := H.out.sure.fr hf1 (fun e => H.out.ne1 e.symm)
  have HW1 := Lib.hid hw1
  have HS1 := Lib.hid hs1
  clear hd1 hf1 hw1 hs1
  go_wp2_with fail
  go_loopw [18] (fun t wr => ∃ i : Nat, i ≤ S.waits.length ∧ t = .int .i64 i ∧ Blk wr gs 119 (bys (applyAll S.sure (S.waits.take i)).flatten).toArray ∧ Fr (fun k => k = gs) w1 wr)
    (fun t _ => S.waits.length - (intOf t).toNat)
  case atStart => exact ⟨0, Nat.zero_le _, rfl, HS1.out, Fr.refl _ _⟩
  case round =>
    obtain ⟨i, hi, rfl, hb, hfr⟩ := hrel
    by_cases hlt : i < S.waits.length
    · obtain ⟨g, cap', hsl, hg, hld⟩ := load_wait HW1.out (fun x hx => (H.out.ok.waits x hx).2.1) i hlt
      have hsl' := HW.out.symm.trans hsl
      simp only [Value.slice.injEq] at hsl'
      obtain ⟨rfl, -, rfl⟩ := hsl'
      have hgne : g ≠ gs := fun e => H.out.ne3 (by rw [HW.out, e]; rfl)
      have hld' := hld wr (hfr.block g hg hgne)
      have hxm := List.getElem_mem hlt
      have hk0 : S.waits[i].1 < S.sure.length := (H.out.ok.waits _ hxm).1
      have hx64 : S.waits[i].2.length = 64 := (H.out.ok.waits _ hxm).2.1
      obtain ⟨x, hx⟩ : ∃ x, S.waits[i] = x := ⟨_, rfl⟩
      have HX := Lib.hid hx
      rw [hx] at hld' hk0 hx64
      obtain ⟨d, hu, hd⟩ := Option.map_eq_some_iff.1 u62
      obtain ⟨z, hz1, hz2⟩ := Option.map_eq_some_iff.1 z62
      have hal := ALs_new (P := Tryd.prog) (t := 121) z hz1
      obtain ⟨Z, hZ⟩ : ∃ Z, z.cells = Z := ⟨_, rfl⟩
      rw [hZ] at hal hz2
      have hstz := fun W : World => STs_new (P := Tryd.prog) (t := 121) i62 W Z hz2 (wrow x) (wrow_len hx64) (wrow_one x)
      have hc0 : (wr.alloc (.cells (wrow x).toArray 121)).drew.cell? ⟨wr.heap.size, 0, none⟩ = some (.int .i64 (x.1 : Int)) := by
        rw [World.cell?_drew, World.cell?_alloc_new]; rfl
      have hl60 : (LDs 119 (.pointer (some ⟨wr.heap.size, 1, none⟩))).run Tryd.prog (wr.alloc (.cells (wrow x).toArray 121)).drew = .ok (.agg (bys x.2).toArray) (wr.alloc (.cells (wrow x).toArray 121)).drew :=
        LDs_blk u54 rfl i60 (Blk.new wr _ _).drew (bys x.2) (by rw [bys_length, hx64]) (by simp [wrow, bys_length, hx64, List.take_of_length_le])
      have hb' : Blk (wr.alloc (.cells (wrow x).toArray 121)).drew gs _ _ := (hb.alloc _).drew
      have hsz : (bys (applyAll S.sure (S.waits.take i)).flatten).toArray.size = S.sure.length * 64 := by
        rw [List.size_toArray, bys_length, flat_len 64 _ (fun s hs => (applyAll_sec _ _ H.out.ok.sure (fun x hx => (H.out.ok.waits x (List.mem_of_mem_take hx)).2) s hs).1), applyAll_len]
      have hs60 := STs_blk (P := Tryd.prog) (t := 119) i60 hb' (off := x.1 * 64) (bys x.2) (by rw [bys_length, hx64]) (by rw [hsz]; omega) (bys_one _)
      have hk1 : (x.1 : Int) < (S.sure.length : Int) := by omega
      have c0 : (wr.alloc (.cells (wrow x).toArray 121)).drew.cell? ⟨p, 0, none⟩ = some (.slice (some ⟨gs, 0, none⟩) S.sure.length S.sure.length) := by
        have := Blk.cell ((Blk.fr HD.out hfr H.out.ne1).alloc (.cells (wrow x).toArray 121)).drew 0
        exact this
      have HX64 := Lib.hid hx64
      clear hld hsl hz1 hz2 hZ hu hd hx hx64 hb' hsz hxm hgne
      go_wp2_with fail
      refine wp_still_tail 9 (by kernel_rfl) (by kernel_rfl) ?_
      simp only [List.take_succ_cons, List.take_zero, List.drop_succ_cons, List.drop_zero]
      repeat still_step
      refine wpStill_nil ?_
      go_wp2_with fail
      refine ⟨⟨i + 1, by omega, by go_num, ?_, ?_⟩, by simp [intOf]; omega⟩
      · rw [List.take_succ_eq_append_getElem hlt, applyAll_snoc, HX.out]
        have hsec : ∀ s ∈ applyAll S.sure (S.waits.take i), s.length = 64 := fun s hs => (applyAll_sec _ _ H.out.ok.sure (fun x hx => (H.out.ok.waits x (List.mem_of_mem_take hx)).2) s hs).1
        rw [splice_sec _ hsec _ (by rw [applyAll_len]; exact hk0) _ HX64.out]
        exact ((hb.alloc _).drew).row_ _
      · exact ((hfr.alloc _).drew).setRow (fun _ => rfl) _
    · obtain rfl : i = S.waits.length := by omega
      have hdr : DrumB wr p (.slice (some ⟨gs, 0, none⟩) S.sure.length S.sure.length) wv (dec S.fuse) false := Blk.fr HD.out hfr H.out.ne1
      have f1' := Blk.frozen hdr 1
      have c1' := hdr.c1
      have HDR := Lib.hid hdr
      rw [List.take_length] at hb
      have HB := Lib.hid hb
      have HFR := Lib.hid hfr
      clear hdr hb hfr
      go_wp2_with fail
      go_ret
      have hS : S.sync.2 = { S with fuse := dec S.fuse, sure := applyAll S.sure S.waits, waits := [] } := by
        unfold DS.sync
        rw [HO.out, if_neg (by decide), if_neg HF1.out]
      refine ⟨rfl, ⟨DS.sync_ok H.out.ok, H.out.b1, H.out.b2, ?_, ?_, ?_⟩, ?_⟩
      · rw [hS, HO.out]
        simp only [applyAll_len]
        simpa [DrumB] using Blk.set_ HDR.out 1 (.slice none 0 0)
      · rw [hS]
        exact HB.out.far (p := ⟨p, 1, none⟩) (fun e => H.out.ne1 e.symm) _
      · rw [hS]
        exact World.ownsRow_nil _ _ _ _
      · exact ((HF.out.mono fun k _ e => .inl e).trans (HFR.out) (fun k _ e => .inr (.inl e))).setCell (p := ⟨p, 1, none⟩) (fun _ => .inl rfl) _

end Go.Proofs.YtohadeijmmmcdaaDoor
end
