/-
  field.Read's deferred closure: a broken field is caught.
  field.Read's deferred closure: a broken field is caught.
  field.Read with scroll.read's closure.
-/
import Derived.Test.YtohadeijmmmcdaaDoorEye
import Derived.Defers
import Derived.Recover

section
namespace Go.Proofs.YtohadeijmmmcdaaDoor
open Go.RowKit
set_option maxRecDepth 100000

set_option maxHeartbeats 2000000 in
theorem catch_idle (q : Addr) (w : World) :
    CallsD Tryd.prog 99 #[.pointer (some q)] .returning w fun e u' w' => e = .returned (.tuple #[]) ∧ u' = .returning ∧ w' = w := by
  have hq : ∀ W : World, (binOp .eql 20 .nilIface .nilIface).run Tryd.prog W = .ok (.bool true) W := fun W => by kernel_rfl
  refine callsD_of_wpS Tryd.func99 rfl fun c₀ cs hu => ?_
  apply wpS_seq
  apply wpS_region
  simp [wpOpsS, go_sem, recoverD, hu, Tryd.ntmps99, Exit.thenS]
  apply wpS_seq
  apply wpS_seq
  apply wpS_region
  simp [wpOpsS, go_sem, Exit.thenS, hq]
  refine wpS_cond (t := true) (by simp [Act.eval, Array.replicate]) ?_
  simp only [if_true]
  refine wpS_of_wp (wp_ret ?_)
  cases c₀
  simp_all [bodyPostS, results, Tryd.results99, Exit.thenS]

end Go.Proofs.YtohadeijmmmcdaaDoor
end

section
namespace Go.Proofs.YtohadeijmmmcdaaDoor
open Go.RowKit
set_option maxRecDepth 100000

/-- A type assertion, kept shut. -/
def TAs (v : Value) (x t : TypeId) (ok : Bool) : Sem Value := Instr.typeAssert v x t ok
theorem TAs_of (v : Value) (x t : TypeId) (ok : Bool) : Instr.typeAssert v x t ok = TAs v x t ok := rfl
theorem ta_broken (x : Int) (W : World) : (TAs (brokenV x) 20 160 true).run Tryd.prog W = .ok (.tuple #[.agg #[.int .i64 x], .bool true]) W := by rfl
attribute [local go_sem ↓] TAs_of

theorem ld160_of (v : Value) : Instr.loadAt 160 v = LDs 160 v := rfl
theorem st160_of (v x : Value) : Instr.storeAt 160 v x = STs 160 v x := rfl
theorem al160_of : Instr.alloc 160 true (.tuple #[]) = ALs 160 := rfl
attribute [local go_sem ↓] ld160_of st160_of al160_of
theorem i160 : (Tryd.prog.info? 160).map (·.size) = some 1 := by kernel_rfl
theorem z160 : (Tryd.prog.info? 160).bind (·.zero) = some (.agg #[.int .i64 0]) := by kernel_rfl

set_option maxHeartbeats 2000000 in
theorem catch_broken (q : Nat) (x y : Int) (w : World) (hb : Blk w q 24 #[.int .i64 y]) :
    CallsD Tryd.prog 99 #[.pointer (some ⟨q, 0, none⟩)] (.panicking [{ v := brokenV x, recovered := false }]) w fun e u' w' =>
      e = .returned (.tuple #[]) ∧ u' = .panicking [{ v := brokenV x, recovered := true }] ∧ Blk w' q 24 #[.int .i64 x] ∧ Fr (fun k => k = q) w w' := by
  have hq : ∀ W : World, (binOp .eql 20 (brokenV x) .nilIface).run Tryd.prog W = .ok (.bool false) W := fun W => by rfl
  have hq2 : ∀ W : World, (eqGuard .eql 20 (Operand.tmp 5) (Operand.const Value.nilIface) (brokenV x) .nilIface).run Tryd.prog W = .ok () W := fun W => by rfl
  have k : (w.alloc (.cells #[.int .i64 x] 160)).cell? ⟨q, 0, none⟩ = some (.int .i64 y) := (hb.alloc _).cell 0
  have f := (hb.alloc (.cells #[.int .i64 x] 160)).frozen 0
  have HB := Lib.hid hb
  clear hb
  have hta := ta_broken x
  have hal : ∀ W : World, (ALs 160).run Tryd.prog W = .ok (.pointer (some ⟨W.heap.size, 0, none⟩)) (W.alloc (.cells #[.int .i64 0] 160)) := fun W => ALs_new _ z160 W
  have hst : ∀ W : World, (STs 160 (.pointer (some ⟨W.heap.size, 0, none⟩)) (.agg #[.int .i64 x])).run Tryd.prog (W.alloc (.cells #[.int .i64 0] 160)) = .ok () (W.alloc (.cells #[.int .i64 x] 160)) := fun W =>
    STs_new i160 W #[.int .i64 0] rfl [.int .i64 x] rfl (by intro v hv; simp at hv; subst hv; rfl)
  obtain ⟨bv, hbv⟩ : ∃ bv, brokenV x = bv := ⟨_, rfl⟩
  rw [hbv] at hq hq2 hta ⊢
  clear hbv
  refine callsD_of_wpS Tryd.func99 rfl fun c₀ cs hu => ?_
  apply wpS_seq
  apply wpS_region
  simp [wpOpsS, go_sem, recoverD, hu, Tryd.ntmps99, Exit.thenS]
  apply wpS_seq
  apply wpS_seq
  apply wpS_region
  simp [wpOpsS, go_sem, Exit.thenS, hq, hq2]
  refine wpS_cond (t := false) (by simp [Act.eval, Array.replicate]) ?_
  simp only [Bool.false_eq_true, if_false]
  refine wpS_of_wp (wp_skip ?_)
  refine wpS_of_wp ?_
  simp only [Array.replicate_succ, Array.replicate_zero, List.push_toArray, List.append_toArray, List.nil_append, List.cons_append, List.setIfInBounds_toArray, List.set_cons_zero, List.set_cons_succ]
  clear hq hq2
  go_wp2_with fail
  cases c₀
  have hfin : Blk ((w.alloc (.cells #[.int .i64 x] 160)).setCell ⟨q, 0, none⟩ (.int .i64 x)) q 24 #[.int .i64 x] := by simpa using (HB.out.alloc (.cells #[.int .i64 x] 160)).set_ 0 (.int .i64 x)
  have hfr : Fr (fun k => k = q) w ((w.alloc (.cells #[.int .i64 x] 160)).setCell ⟨q, 0, none⟩ (.int .i64 x)) := ((Fr.refl (fun k => k = q) w).alloc _).setCell (p := ⟨q, 0, none⟩) (fun _ => rfl) _
  first
    | exact ⟨rfl, _, rfl, _, results_none rfl _ _ _, rfl, rfl, hfin, hfr⟩
    | exact ⟨trivial, _, rfl, _, results_none rfl _ _ _, rfl, rfl, hfin, hfr⟩

end Go.Proofs.YtohadeijmmmcdaaDoor
end

section
namespace Go.Proofs.YtohadeijmmmcdaaDoor
open Go.RowKit
set_option maxRecDepth 100000

def FReadPost (n₀ rb : Nat) (sz : Int) (R : Option (Nat × Nat × List Int)) (e : Ending) (w' : World) : Prop :=
  match R with
  | none => (∃ x, (x != 0) = true ∧ e = .returned (.int .i64 x)) ∧ ∃ a b v, v.oneCell' = true ∧ Blk w' rb 115 #[.int .i64 a, .int .i64 b, .int .i64 sz, v]
  | some (t, n, x) => e = .returned (.int .i64 0) ∧ ∃ v, Own8 n₀ w' v x ∧ Blk w' rb 115 #[.int .i64 (t : Int), .int .i64 (n : Int), .int .i64 sz, v]

set_option maxHeartbeats 8000000 in
theorem fread_any (rb lb : Nat) (A : Option Addr) (c : Nat) (hcA : A = none → c = 0) (l : List Int) (t0 n0 sz : Int) (vb : Value) (long : Nat) (hlong : long ≤ 400000000) (hl : l.length ≤ 400000000) (w : World) (hy : Byt w A l)
    (hb : Blk w rb 115 #[.int .i64 t0, .int .i64 n0, .int .i64 sz, vb]) (hlb : Blk w lb 3 #[.int .i64 (long : Int)]) (hvb : ∀ y, vb ≠ .int .u8 y) (hv1 : vb.oneCell' = true) :
    Calls Tryd.prog 86 #[.slice A l.length c, .func (.func 87) #[] #[.pointer (some ⟨rb, 0, none⟩), .pointer (some ⟨lb, 0, none⟩)]] w fun e w' => Fr (fun k => k = rb) w w' ∧ FReadPost w.heap.size rb sz (eyeP l long) e w' := by
  obtain ⟨EP, hEP⟩ : ∃ EP, eyeP l long = EP := ⟨_, rfl⟩
  rw [hEP]
  have HEP := Lib.hid hEP
  clear hEP
  have hmf : ∀ (fn : Fn) (first cap : Array Value) (w : World), (Instr.makeFunc fn first cap).run Tryd.prog w = .ok (.func fn first cap) w := fun _ _ _ _ => rfl
  have hcl := clone_any A c hcA l (w.alloc (.cells #[.int .i64 0] 24)) (hy.below ((Below.refl _ w).alloc (Nat.le_refl _) _)) (by omega)
  have HY := Lib.hid hy
  have HB := Lib.hid hb
  have HLB := Lib.hid hlb
  have HVB := Lib.hid hvb
  have HV1 := Lib.hid hv1
  clear hv1
  have HCL := Lib.hid hcl
  clear hy hb hlb hvb hcl
  go_enter_defers Tryd.func86, Tryd.ntmps86
  go_wp2_with fail
  refine HCL.out.mono ?_
  rintro e w1 ⟨v, rfl, ho, hbl⟩
  have hs1 : w.heap.size + 1 ≤ w1.heap.size := by have := hbl.size; simpa using this
  have b0 : Below w.heap.size w w1 := ((Below.refl _ w).alloc (Nat.le_refl _) _).trans (hbl.mono (by simp))
  obtain ⟨A1, c1, rfl, hy1, hA1, hc1⟩ := ho.byt HY.out.bd
  obtain ⟨L, hL⟩ : ∃ L, l.length = L := ⟨_, rfl⟩
  have hq1 : Blk w1 w.heap.size 24 #[.int .i64 0] := (Blk.new w 24 #[.int .i64 0]).fr (Fr.of_below hbl) (by simp)
  have hrbl := HB.out.lt
  have hlbl := HLB.out.lt
  have hb1 := HB.out.fr (Fr.of_below b0) (by omega)
  have hlb1 := HLB.out.fr (Fr.of_below b0) (by omega)
  have hrq : rb ≠ w.heap.size := by omega
  obtain ⟨w2, hw2⟩ : ∃ w2, w1.alloc (.cells #[.slice A1 l.length c1] 162) = w2 := ⟨_, rfl⟩
  have hq2 := hq1.alloc (.cells #[.slice A1 l.length c1] 162)
  have hb2 := hb1.alloc (.cells #[.slice A1 l.length c1] 162)
  have hlb2 := hlb1.alloc (.cells #[.slice A1 l.length c1] 162)
  have hst2 := Blk.new w1 162 #[.slice A1 l.length c1]
  have hy2 := hy1.below ((Below.refl _ w1).alloc (Nat.le_refl _) (.cells #[.slice A1 l.length c1] 162))
  have b2 := b0.alloc (by have := b0.size; omega) (.cells #[.slice A1 l.length c1] 162)
  rw [hw2] at hq2 hb2 hlb2 hst2 hy2 b2
  have he : IsEye w2 w1.heap.size A1 c1 l := ⟨hst2, hy2, fun a ha h0 => by
    obtain ⟨g, o, e2, hg, _⟩ := hy1.cell h0
    rw [ha] at e2
    cases e2
    simp only
    omega, hc1⟩
  have hrd := read1_any w1.heap.size rb lb A1 c1 l t0 n0 sz vb long hlong hl w2 he hb2 hlb2 HVB.out HV1.out
  have hpq : w1.heap.size ≠ w.heap.size := by omega
  have hprb : w1.heap.size ≠ rb := by omega
  have HW2 := Lib.hid hw2
  have HRD := Lib.hid hrd
  have HQ2 := Lib.hid hq2
  have B2 := Lib.hid b2
  have HL := Lib.hid hL
  clear hw2 hrd hq2 b2 ho hbl b0 hy1 hA1 hc1 hq1 hb1 hlb1 hb2 hlb2 hst2 hy2 he hL
  go_wp2_with fail
  rw [HW2.out]
  have hE := eyeP_fld l long
  cases hF : fldP l long with
  | none =>
    have hrd := HRD.out
    rw [hF, HEP.out] at hE
    rw [hF] at hrd
    simp only at hE
    have HE := Lib.hid hE
    clear hF HRD hE HEP
    refine hrd.mono ?_
    rintro e w3 ⟨f3, ⟨x, hx, rfl⟩, a, b, v, hv, hb3⟩
    have hq3 := HQ2.out.fr f3 (fun e => by rcases e with e | e <;> omega)
    have f23 := ((Fr.of_below B2.out).mono (G := fun k => k = rb ∨ w.heap.size ≤ k) (fun k _ h => .inr h)).trans (f3.mono (G := fun k => k = rb ∨ w.heap.size ≤ k) (fun k _ h => by rcases h with h | h <;> omega)) (fun _ _ h => h)
    have hcb := catch_broken w.heap.size x 0 w3 hq3
    clear hrd f3 hq3
    refine leaves_cons (f := 99) (args := #[.pointer (some ⟨w.heap.size, 0, none⟩)]) (by simp) (by simp [go_sem]) ?_
    refine hcb.mono ?_
    rintro e u' w4 ⟨rfl, rfl, hq4, f4⟩
    have k4 : w4.cell? ⟨w.heap.size, 0, none⟩ = some (.int .i64 x) := hq4.cell 0
    simp [Leaves, settle, results, Tryd.results86, go_sem, k4]
    refine ⟨(f23.trans (f4.mono (G := fun k => k = rb ∨ w.heap.size ≤ k) (fun k _ h => .inr (by omega))) (fun _ _ h => h)).mono (fun k hk h => by rcases h with h | h <;> omega), ?_⟩
    rw [show EP = none from HE.out]
    exact ⟨⟨x, hx, rfl⟩, a, b, v, hv, hb3.fr f4 hrq⟩
  | some tn =>
    obtain ⟨tt, nn, x, r⟩ := tn
    have hrd := HRD.out
    rw [hF, HEP.out] at hE
    rw [hF] at hrd
    simp only at hE
    have HE := Lib.hid hE
    clear hF HRD hE HEP
    refine hrd.mono ?_
    rintro e w3 ⟨f3, rfl, ⟨A2, c2, he3⟩, v, ho3, hb3⟩
    have hq3 := HQ2.out.fr f3 (fun e => by rcases e with e | e <;> omega)
    have f23 := ((Fr.of_below B2.out).mono (G := fun k => k = rb ∨ w.heap.size ≤ k) (fun k _ h => .inr h)).trans (f3.mono (G := fun k => k = rb ∨ w.heap.size ≤ k) (fun k _ h => by rcases h with h | h <;> omega)) (fun _ _ h => h)
    have hlf := eleft_any w1.heap.size A2 c2 r w3 he3
    have k3 : w3.cell? ⟨w.heap.size, 0, none⟩ = some (.int .i64 0) := hq3.cell 0
    have kf3 := hq3.frozen 0
    have hvq : v.ownBlock ≠ some w.heap.size := own_ne ho3 hq3 (by decide)
    have hw2s : w.heap.size ≤ w2.heap.size := B2.out.size
    have hv3 : v.oneCell' = true := by obtain ⟨A9, c9, rfl⟩ := ho3.form; rfl
    have HV3 := Lib.hid hv3
    clear hv3
    have HLF := Lib.hid hlf
    have HQ3 := Lib.hid hq3
    have F23 := Lib.hid f23
    have HO3 := Lib.hid ho3
    have HB3 := Lib.hid hb3
    clear hrd f3 he3 hq3 f23 hlf ho3 hb3
    have hclose : ∀ (y : Int) (w4 : World), w4 = w3.setCell ⟨w.heap.size, 0, none⟩ (.int .i64 y) → Blk w4 w.heap.size 24 #[.int .i64 y] ∧ Fr (fun k => k = rb) w w4 ∧ Own8 w.heap.size w4 v x ∧ Blk w4 rb 115 #[.int .i64 (tt : Int), .int .i64 (nn : Int), .int .i64 sz, v] := by
      rintro y w4 rfl
      have f4 : Fr (fun k => k = w.heap.size) w3 (w3.setCell ⟨w.heap.size, 0, none⟩ (.int .i64 y)) := (Fr.refl (fun k => k = w.heap.size) w3).setCell (p := ⟨w.heap.size, 0, none⟩) (fun _ => rfl) _
      refine ⟨by simpa using HQ3.out.set_ 0 (.int .i64 y), (F23.out.trans (f4.mono (G := fun k => k = rb ∨ w.heap.size ≤ k) (fun k _ h => .inr (by omega))) (fun _ _ h => h)).mono (fun k hk h => by rcases h with h | h <;> omega), (HO3.out.base hw2s).fr f4 (fun k hk e => hvq (e ▸ hk)), HB3.out.fr f4 hrq⟩
    have HCLO := Lib.hid hclose
    clear hclose
    by_cases hr : r = []
    · subst hr
      have hlf2 : Calls Tryd.prog 100 #[.pointer (some ⟨w1.heap.size, 0, none⟩)] w3 fun e w' => e = .returned (.int .i64 0) ∧ w' = w3 := HLF.out
      clear HLF
      go_wp2_with fail
      refine hlf2.mono ?_
      rintro e w5 ⟨rfl, hw5⟩
      rw [hw5]
      clear hlf2 hw5
      go_wp2_with fail
      obtain ⟨hq4, f4, ho4, hb4⟩ := HCLO.out 0 _ rfl
      refine leaves_cons (f := 99) (args := #[.pointer (some ⟨w.heap.size, 0, none⟩)]) (by simp) (by simp [go_sem]) ?_
      refine (catch_idle ⟨w.heap.size, 0, none⟩ _).mono ?_
      rintro e u' w4 ⟨rfl, rfl, hw4⟩
      rw [← hw4] at hq4 f4 ho4 hb4
      have k4 : w4.cell? ⟨w.heap.size, 0, none⟩ = some (.int .i64 0) := hq4.cell 0
      clear hw4
      simp [Leaves, settle, results, Tryd.results86, go_sem, k4]
      refine ⟨f4, ?_⟩
      rw [show EP = some (tt, nn, x) from by rw [HE.out]; simp]
      exact ⟨rfl, v, ho4, hb4⟩
    · have hr0 : (0 : Int) < (r.length : Int) := by
        cases r with
        | nil => exact absurd rfl hr
        | cons y r => simp
      have HR := Lib.hid hr
      clear hr
      go_wp2_with fail
      refine HLF.out.mono ?_
      rintro e w5 ⟨rfl, hw5⟩
      rw [hw5]
      clear hw5
      go_wp2_with fail
      obtain ⟨hq4, f4, ho4, hb4⟩ := HCLO.out 3 _ rfl
      refine leaves_cons (f := 99) (args := #[.pointer (some ⟨w.heap.size, 0, none⟩)]) (by simp) (by simp [go_sem]) ?_
      refine (catch_idle ⟨w.heap.size, 0, none⟩ _).mono ?_
      rintro e u' w4 ⟨rfl, rfl, hw4⟩
      rw [← hw4] at hq4 f4 ho4 hb4
      have k4 : w4.cell? ⟨w.heap.size, 0, none⟩ = some (.int .i64 3) := hq4.cell 0
      clear hw4
      simp [Leaves, settle, results, Tryd.results86, go_sem, k4]
      refine ⟨f4, ?_⟩
      rw [show EP = none from by rw [HE.out, if_neg HR.out]]
      exact ⟨⟨3, rfl, rfl⟩, _, _, v, HV3.out, hb4⟩

end Go.Proofs.YtohadeijmmmcdaaDoor
end
