/-
  Entries, headers and certificates in the world; which of them are right.
  entry.Right, header.Right.
  The document's rightness of entries and headers.
-/
import Derived.Test.YtmflhidmhefljaaGreatDoorJTxP
import Derived.Test.YtmflhidmhefljaaGreatDoorJRTxA

section
namespace Go.Proofs.YtmflhidmhefljaaGreatDoor
open Go.RowKit Go.Shelf
set_option maxRecDepth 100000

def entV (e : EntD) : List Value := [.int .i64 e.kind, .int .i64 e.sh] ++ bys e.tx ++ [.int .u64 e.am, .int .i64 e.why, .int .i64 e.ep]
def headV (h : HeadD) : List Value := [.int .i64 h.sh, .int .i64 h.ht, .int .i64 h.ep] ++ bys h.prev ++ bys h.root
def certV (c : CertD) (A : Option Addr) (cap : Nat) : List Value := entV c.e ++ [.slice A c.path.length cap] ++ headV c.h ++ bys c.tag
theorem entV_len {e : EntD} (h : e.Bd) : (entV e).length = 37 := by simp [entV, bys_length, h.tx.1]
theorem headV_len {h : HeadD} (hb : h.Bd) : (headV h).length = 67 := by simp [headV, bys_length, hb.prev.1, hb.root.1]
theorem certV_len {c : CertD} (h : c.Bd) (A : Option Addr) (cap : Nat) : (certV c A cap).length = 137 := by simp [certV, bys_length, h.tag.1, entV_len h.e, headV_len h.h]
theorem entV_one (e : EntD) : ∀ v ∈ entV e, v.oneCell' = true := by
  intro v hv
  simp only [entV, List.mem_append, List.mem_cons, List.not_mem_nil, or_false] at hv
  rcases hv with ((rfl | rfl) | h) | rfl | rfl | rfl
  · rfl
  · rfl
  · exact bys_one _ _ h
  · rfl
  · rfl
  · rfl
theorem headV_one (h : HeadD) : ∀ v ∈ headV h, v.oneCell' = true := by
  intro v hv
  simp only [headV, List.mem_append, List.mem_cons, List.not_mem_nil, or_false] at hv
  rcases hv with ((rfl | rfl | rfl) | h) | h
  · rfl
  · rfl
  · rfl
  · exact bys_one _ _ h
  · exact bys_one _ _ h
theorem certV_one (c : CertD) (A : Option Addr) (cap : Nat) : ∀ v ∈ certV c A cap, v.oneCell' = true := by
  intro v hv
  simp only [certV, List.mem_append, List.mem_cons, List.not_mem_nil, or_false] at hv
  rcases hv with ((h | rfl) | h) | h
  · exact entV_one _ _ h
  · rfl
  · exact headV_one _ _ h
  · exact bys_one _ _ h
def zeroE : EntD := ⟨0, 0, List.replicate 32 0, 0, 0, 0⟩
def zeroH : HeadD := ⟨0, 0, 0, List.replicate 32 0, List.replicate 32 0⟩
theorem zeroE_bd : zeroE.Bd := ⟨by simp [zeroE, InI], by simp [zeroE, InI], Dig.zero, by simp [zeroE], by simp [zeroE, InI], by simp [zeroE, InI]⟩
theorem zeroH_bd : zeroH.Bd := ⟨by simp [zeroH, InI], by simp [zeroH, InI], by simp [zeroH, InI], Dig.zero, Dig.zero⟩
theorem ldEnt_of (v : Value) : Instr.loadAt 43 v = LDs 43 v := rfl
theorem ldHead_of (v : Value) : Instr.loadAt 46 v = LDs 46 v := rfl
theorem bdEnt_of (parts : Array (Nat × Value)) : Instr.build 43 parts = BDs 43 parts := rfl
theorem bdHead_of (parts : Array (Nat × Value)) : Instr.build 46 parts = BDs 46 parts := rfl
theorem eqEnt_of (x y : Value) : binOp .eql 43 x y = EQs 43 x y := rfl
def NEs (t : TypeId) (x y : Value) : Sem Value := binOp .neq t x y
theorem neHead_of (x y : Value) : binOp .neq 46 x y = NEs 46 x y := rfl
theorem uEnt : (Tryz.prog.underlying 43).map isAggD = some true := by kernel_rfl
theorem iEnt : (Tryz.prog.info? 43).map (·.size) = some 37 := by kernel_rfl
theorem zEnt : (((Tryz.prog.info? 43).bind (·.zero)).map (·.cells.size)) = some 37 := by kernel_rfl
theorem uHead : (Tryz.prog.underlying 46).map isAggD = some true := by kernel_rfl
theorem iHead : (Tryz.prog.info? 46).map (·.size) = some 67 := by kernel_rfl
theorem zHead : (((Tryz.prog.info? 46).bind (·.zero)).map (·.cells.size)) = some 67 := by kernel_rfl
theorem bdEnt0 (w : World) : (BDs 43 #[]).run Tryz.prog w = .ok (.agg (entV zeroE).toArray) w := run_build w _ _ _ (by kernel_rfl)
theorem bdHead0 (w : World) : (BDs 46 #[]).run Tryz.prog w = .ok (.agg (headV zeroH).toArray) w := run_build w _ _ _ (by kernel_rfl)
theorem uEntS : ∃ f0 f1 f2 f3 f4 f5 : Field, Tryz.prog.underlying 43 = some (.struct #[f0, f1, f2, f3, f4, f5]) ∧ (f0.type = 3 ∧ f1.type = 3 ∧ f2.type = 41 ∧ f3.type = 25 ∧ f4.type = 3 ∧ f5.type = 3) ∧
    (f0.offset = 0 ∧ f1.offset = 1 ∧ f2.offset = 2 ∧ f3.offset = 34 ∧ f4.offset = 35 ∧ f5.offset = 36) ∧ (f0.name ≠ "_" ∧ f1.name ≠ "_" ∧ f2.name ≠ "_" ∧ f3.name ≠ "_" ∧ f4.name ≠ "_" ∧ f5.name ≠ "_") :=
  ⟨_, _, _, _, _, _, Tryz.underlying43, ⟨rfl, rfl, rfl, rfl, rfl, rfl⟩, ⟨rfl, rfl, rfl, rfl, rfl, rfl⟩, by decide⟩
theorem uHeadS : ∃ f0 f1 f2 f3 f4 : Field, Tryz.prog.underlying 46 = some (.struct #[f0, f1, f2, f3, f4]) ∧ (f0.type = 3 ∧ f1.type = 3 ∧ f2.type = 3 ∧ f3.type = 41 ∧ f4.type = 41) ∧
    (f0.offset = 0 ∧ f1.offset = 1 ∧ f2.offset = 2 ∧ f3.offset = 3 ∧ f4.offset = 35) ∧ (f0.name ≠ "_" ∧ f1.name ≠ "_" ∧ f2.name ≠ "_" ∧ f3.name ≠ "_" ∧ f4.name ≠ "_") :=
  ⟨_, _, _, _, _, Tryz.underlying46, ⟨rfl, rfl, rfl, rfl, rfl⟩, ⟨rfl, rfl, rfl, rfl, rfl⟩, by decide⟩
theorem cEnt : Tryz.prog.cellsOf 43 = 37 := by kernel_rfl
theorem cHead : Tryz.prog.cellsOf 46 = 67 := by kernel_rfl
theorem uU64 : Tryz.prog.underlying 25 = some (.int .u64) := by kernel_rfl
theorem cU64 : Tryz.prog.cellsOf 25 = 1 := by kernel_rfl
theorem lits_u64 (d : Nat) {x : Int} (h : 0 ≤ x ∧ x ≤ 18446744073709551615) : Tryz.prog.keyLits (d + 1) 25 [.int .u64 x] = some [.int .u64 x] := by
  unfold Program.keyLits
  have : (Lit.int .u64 x).wf = true := by
    simp only [Lit.wf]
    rw [show IntKind.u64.min = 0 from rfl, show IntKind.u64.max = 18446744073709551615 from rfl]
    simp [h]
  simp [this]
def entK (e : EntD) : List Lit := [.int .i64 e.kind, .int .i64 e.sh] ++ e.tx.map (Lit.int .u8) ++ [.int .u64 e.am, .int .i64 e.why, .int .i64 e.ep]
def headK (h : HeadD) : List Lit := [.int .i64 h.sh, .int .i64 h.ht, .int .i64 h.ep] ++ h.prev.map (Lit.int .u8) ++ h.root.map (Lit.int .u8)
theorem lits_ent (d : Nat) {e : EntD} (h : e.Bd) : Tryz.prog.keyLits (d + 3) 43 (entV e) = some (entK e) := by
  obtain ⟨f0, f1, f2, f3, f4, f5, hu, ⟨t0, t1, t2, t3, t4, t5⟩, ⟨o0, o1, o2, o3, o4, o5⟩, n0, n1, n2, n3, n4, n5⟩ := uEntS
  have d0 : ((entV e).drop 0).take 1 = [.int .i64 e.kind] := rfl
  have d1 : ((entV e).drop 1).take 1 = [.int .i64 e.sh] := rfl
  have hl : (bys e.tx).length = 32 := by rw [bys_length, h.tx.1]
  have dd : ∀ k, (entV e).drop (k + 2) = (bys e.tx ++ [Value.int .u64 e.am, Value.int .i64 e.why, Value.int .i64 e.ep]).drop k := fun k => by
    unfold entV
    simp
  have d2 : ((entV e).drop 2).take 32 = bys e.tx := by
    rw [dd 0, List.drop_zero, List.take_append_of_le_length (by omega), List.take_of_length_le (by omega)]
  have d3 : ((entV e).drop 34).take 1 = [.int .u64 e.am] := by
    rw [dd 32, List.drop_append_of_le_length (by omega), List.drop_of_length_le (by omega)]; rfl
  have d4 : ((entV e).drop 35).take 1 = [.int .i64 e.why] := by
    rw [dd 33, List.drop_append, List.drop_of_length_le (by omega), hl]; rfl
  have d5 : ((entV e).drop 36).take 1 = [.int .i64 e.ep] := by
    rw [dd 34, List.drop_append, List.drop_of_length_le (by omega), hl]; rfl
  unfold Program.keyLits
  simp only [hu]
  rw [if_pos ⟨by rw [cEnt]; exact entV_len h, by simp [n0, n1, n2, n3, n4, n5]⟩]
  rw [List.mapM_cons, List.mapM_cons, List.mapM_cons, List.mapM_cons, List.mapM_cons, List.mapM_cons, List.mapM_nil, t0, t1, t2, t3, t4, t5, o0, o1, o2, o3, o4, o5, cId, cI64, cU64, d0, d1, d2, d3, d4, d5,
    lits_id _ h.tx.1 h.tx.2, lits_i64 _ h.kind, lits_i64 _ h.sh, lits_u64 _ h.am, lits_i64 _ h.why, lits_i64 _ h.ep]
  simp [entK]
theorem lits_head (d : Nat) {h : HeadD} (hb : h.Bd) : Tryz.prog.keyLits (d + 3) 46 (headV h) = some (headK h) := by
  obtain ⟨f0, f1, f2, f3, f4, hu, ⟨t0, t1, t2, t3, t4⟩, ⟨o0, o1, o2, o3, o4⟩, n0, n1, n2, n3, n4⟩ := uHeadS
  have d0 : ((headV h).drop 0).take 1 = [.int .i64 h.sh] := rfl
  have d1 : ((headV h).drop 1).take 1 = [.int .i64 h.ht] := rfl
  have d2 : ((headV h).drop 2).take 1 = [.int .i64 h.ep] := rfl
  have hl : (bys h.prev).length = 32 := by rw [bys_length, hb.prev.1]
  have hl2 : (bys h.root).length = 32 := by rw [bys_length, hb.root.1]
  have dd : ∀ k, (headV h).drop (k + 3) = (bys h.prev ++ bys h.root).drop k := fun k => by
    unfold headV
    simp
  have d3 : ((headV h).drop 3).take 32 = bys h.prev := by
    rw [dd 0, List.drop_zero, List.take_append_of_le_length (by omega), List.take_of_length_le (by omega)]
  have d4 : ((headV h).drop 35).take 32 = bys h.root := by
    rw [dd 32, List.drop_append_of_le_length (by omega), List.drop_of_length_le (by omega), List.nil_append, List.take_of_length_le (by omega)]
  unfold Program.keyLits
  simp only [hu]
  rw [if_pos ⟨by rw [cHead]; exact headV_len hb, by simp [n0, n1, n2, n3, n4]⟩]
  rw [List.mapM_cons, List.mapM_cons, List.mapM_cons, List.mapM_cons, List.mapM_cons, List.mapM_nil, t0, t1, t2, t3, t4, o0, o1, o2, o3, o4, cId, cI64, d0, d1, d2, d3, d4,
    lits_id _ hb.prev.1 hb.prev.2, lits_id _ hb.root.1 hb.root.2, lits_i64 _ hb.sh, lits_i64 _ hb.ht, lits_i64 _ hb.ep]
  simp [headK]
/-- Is an entry the empty one? -/
theorem EQs_ent {e f : EntD} (he : e.Bd) (hf : f.Bd) (w : World) :
    ∃ r : Bool, (EQs 43 (.agg (entV e).toArray) (.agg (entV f).toArray)).run Tryz.prog w = .ok (.bool r) w ∧ (r = true ↔ entK e = entK f) := by
  unfold EQs
  obtain ⟨f0, f1, f2, f3, f4, f5, hu, _⟩ := uEntS
  obtain ⟨r, hr, hiff⟩ := run_equalIn_deep (P := Tryz.prog) 9997 3 43 (by kernel_rfl) w 3 3 (.agg (entV e).toArray) (.agg (entV f).toArray) _ _
    (by simp [Value.formed, hu, cEnt, entV_len he]) (by simp [Value.formed, hu, cEnt, entV_len hf]) (by simpa [Value.cells] using lits_ent 0 he) (by simpa [Value.cells] using lits_ent 0 hf)
  refine ⟨r, ?_, hiff⟩
  rw [run_eql_struct, show (10000 : Nat) = 9997 + 3 from rfl, hr]
  rfl
theorem NEs_head {e f : HeadD} (he : e.Bd) (hf : f.Bd) (w : World) :
    ∃ r : Bool, (NEs 46 (.agg (headV e).toArray) (.agg (headV f).toArray)).run Tryz.prog w = .ok (.bool (!r)) w ∧ (r = true ↔ headK e = headK f) := by
  unfold NEs
  obtain ⟨f0, f1, f2, f3, f4, hu, _⟩ := uHeadS
  obtain ⟨r, hr, hiff⟩ := run_equalIn_deep (P := Tryz.prog) 9997 3 46 (by kernel_rfl) w 3 3 (.agg (headV e).toArray) (.agg (headV f).toArray) _ _
    (by simp [Value.formed, hu, cHead, headV_len he]) (by simp [Value.formed, hu, cHead, headV_len hf]) (by simpa [Value.cells] using lits_head 0 he) (by simpa [Value.cells] using lits_head 0 hf)
  refine ⟨r, ?_, hiff⟩
  simp only [binOp]
  rw [show (Op.equal 46 (.agg (headV e).toArray) (.agg (headV f).toArray)) = Op.equalIn (9997 + 3) 46 (.agg (headV e).toArray) (.agg (headV f).toArray) from rfl]
  simp [hr]

attribute [local go_sem ↓] ldEnt_of ldHead_of bdEnt_of bdHead_of eqEnt_of neHead_of
theorem ewithin_any (n lo hi : Int) (w : World) : Calls Tryz.prog 126 #[.int .i64 n, .int .i64 lo, .int .i64 hi] w fun e w' => e = .returned (.bool (decide (lo ≤ n ∧ n ≤ hi))) ∧ w = w' := by
  by_cases h1 : lo ≤ n
  · by_cases h2 : n ≤ hi
    · have hd : decide (lo ≤ n ∧ n ≤ hi) = true := by simp [h1, h2]
      rw [hd]
      clear hd
      go_enter Tryz.func126, Tryz.ntmps126
      go_wp2_with fail
      go_ret
      exact ⟨rfl, rfl⟩
    · have hd : decide (lo ≤ n ∧ n ≤ hi) = false := by simp [h2]
      rw [hd]
      clear hd
      go_enter Tryz.func126, Tryz.ntmps126
      go_wp2_with fail
      go_ret
      exact ⟨rfl, rfl⟩
  · have hd : decide (lo ≤ n ∧ n ≤ hi) = false := by simp [h1]
    rw [hd]
    clear hd
    go_enter Tryz.func126, Tryz.ntmps126
    go_wp2_with fail
    go_ret
    exact ⟨rfl, rfl⟩
theorem hwithin_any (n lo hi : Int) (w : World) : Calls Tryz.prog 127 #[.int .i64 n, .int .i64 lo, .int .i64 hi] w fun e w' => e = .returned (.bool (decide (lo ≤ n ∧ n ≤ hi))) ∧ w = w' := by
  by_cases h1 : lo ≤ n
  · by_cases h2 : n ≤ hi
    · have hd : decide (lo ≤ n ∧ n ≤ hi) = true := by simp [h1, h2]
      rw [hd]
      clear hd
      go_enter Tryz.func127, Tryz.ntmps127
      go_wp2_with fail
      go_ret
      exact ⟨rfl, rfl⟩
    · have hd : decide (lo ≤ n ∧ n ≤ hi) = false := by simp [h2]
      rw [hd]
      clear hd
      go_enter Tryz.func127, Tryz.ntmps127
      go_wp2_with fail
      go_ret
      exact ⟨rfl, rfl⟩
  · have hd : decide (lo ≤ n ∧ n ≤ hi) = false := by simp [h1]
    rw [hd]
    clear hd
    go_enter Tryz.func127, Tryz.ntmps127
    go_wp2_with fail
    go_ret
    exact ⟨rfl, rfl⟩
end Go.Proofs.YtmflhidmhefljaaGreatDoor
end

section
namespace Go.Proofs.YtmflhidmhefljaaGreatDoor
open Go.RowKit Go.Shelf
set_option maxRecDepth 100000
attribute [local go_sem ↓] ldEnt_of ldHead_of bdEnt_of bdHead_of eqEnt_of neHead_of

theorem entV_c3 {e : EntD} (h : e.Bd) : (entV e).toArray[34]? = some (.int .u64 e.am) ∧ (entV e).toArray[35]? = some (.int .i64 e.why) ∧ (entV e).toArray[36]? = some (.int .i64 e.ep) := by
  have hl : (bys e.tx).length = 32 := by rw [bys_length, h.tx.1]
  unfold entV
  refine ⟨?_, ?_, ?_⟩ <;> simp [hl]
theorem entK_zero {e : EntD} (h : entK e = entK zeroE) : rightE e = false := by
  have : e.kind = 0 := by
    simp only [entK, List.cons_append, List.cons.injEq, Lit.int.injEq] at h
    exact h.1.2
  unfold rightE
  simp [this]
theorem headK_zero {h : HeadD} (e : headK h = headK zeroH) : rightH h = false := by
  have : h.ht = 0 := by
    simp only [headK, List.cons_append, List.cons.injEq, Lit.int.injEq] at e
    exact e.2.1.2
  unfold rightH
  simp [this]

set_option maxHeartbeats 4000000 in
theorem entright_any (e : EntD) (he : e.Bd) (w : World) :
    Calls Tryz.prog 105 #[.agg (entV e).toArray] w fun x w' => x = .returned (.bool (rightE e)) ∧ Below w.heap.size w w' := by
  have b0 := Blk.new w 43 (entV e).toArray
  have B0 : Below w.heap.size w (w.alloc (.cells (entV e).toArray 43)) := (Below.refl _ w).alloc (Nat.le_refl _) _
  obtain ⟨W, hW⟩ : ∃ W, w.alloc (.cells (entV e).toArray 43) = W := ⟨_, rfl⟩
  obtain ⟨g, hg⟩ : ∃ g, w.heap.size = g := ⟨_, rfl⟩
  rw [hW] at B0
  rw [hW, hg] at b0
  have k0 : W.cell? ⟨g, 0, none⟩ = some (.int .i64 e.kind) := b0.cell 0
  have k1 : W.cell? ⟨g, 1, none⟩ = some (.int .i64 e.sh) := b0.cell 1
  have k34 : W.cell? ⟨g, 34, none⟩ = some (.int .u64 e.am) := (b0.cell 34).trans (entV_c3 he).1
  have k35 : W.cell? ⟨g, 35, none⟩ = some (.int .i64 e.why) := (b0.cell 35).trans (entV_c3 he).2.1
  have k36 : W.cell? ⟨g, 36, none⟩ = some (.int .i64 e.ep) := (b0.cell 36).trans (entV_c3 he).2.2
  have hld := LDs_aggB (P := Tryz.prog) uEnt iEnt b0 (off := 0) (entV e) (entV_len he) (by simp [List.take_of_length_le, entV_len he])
  have hbd := bdEnt0
  obtain ⟨r, hr, hiff⟩ := EQs_ent he zeroE_bd W
  obtain ⟨z, hz⟩ : ∃ z, (entV zeroE).toArray = z := ⟨_, rfl⟩
  obtain ⟨y, hy⟩ : ∃ y, (entV e).toArray = y := ⟨_, rfl⟩
  have hz0 := fun h => entK_zero (hiff.1 h)
  obtain ⟨b1, h1⟩ : ∃ b, decide (1 ≤ e.kind ∧ e.kind ≤ 3) = b := ⟨_, rfl⟩
  obtain ⟨b2, h2⟩ : ∃ b, decide (0 ≤ e.sh ∧ e.sh ≤ 63) = b := ⟨_, rfl⟩
  obtain ⟨b4, h4⟩ : ∃ b, decide (0 ≤ e.why ∧ e.why ≤ 63) = b := ⟨_, rfl⟩
  obtain ⟨b5, h5⟩ : ∃ b, decide (0 ≤ e.ep ∧ e.ep ≤ 1099511627776) = b := ⟨_, rfl⟩
  have hR : rightE e = (b1 && (b2 && (decide (e.am ≤ 4611686018427387904) && (b4 && b5)))) := by
    rw [← h1, ← h2, ← h4, ← h5]
    unfold rightE
    simp only [Bool.decide_and, Bool.and_assoc]
  have w1 := ewithin_any e.kind 1 3 W
  have w2 := ewithin_any e.sh 0 63 W
  have w4 := ewithin_any e.why 0 63 W
  have w5 := ewithin_any e.ep 0 1099511627776 W
  rw [h1] at w1
  rw [h2] at w2
  rw [h4] at w4
  rw [h5] at w5
  obtain ⟨R, hRR⟩ : ∃ R, rightE e = R := ⟨_, rfl⟩
  rw [hRR] at hR hz0 ⊢
  rw [hy] at hW hr hld ⊢
  rw [hz] at hr hbd
  obtain ⟨a, s, tx, am, wy, ep⟩ := e
  simp only at k0 k1 k34 k35 k36 w1 w2 w4 w5 hz0 ⊢
  have HW := Lib.hid hW
  have HG := Lib.hid hg
  have HB0 := Lib.hid B0
  have HZ0 := Lib.hid hz0
  have HR := Lib.hid hR
  clear hW hg B0 b0 hiff hz hy he hR h1 h2 h4 h5 hz0 hRR
  go_enter Tryz.func105, Tryz.ntmps105
  go_upto_region 1 with fail
  rw [HW.out, HG.out]
  cases r with
  | true =>
    go_wp2_with fail
    go_ret
    exact ⟨by rw [show R = false from HZ0.out (by simp)]; rfl, HB0.out⟩
  | false =>
    clear HZ0
    go_wp2_with fail
    with_reducible refine w1.mono ?_
    rintro e w' ⟨rfl, hw⟩
    rw [← hw]
    clear hw w1
    cases b1 with
    | false =>
      go_wp2_with fail
      go_ret
      exact ⟨by rw [HR.out]; simp, HB0.out⟩
    | true =>
      go_wp2_with fail
      with_reducible refine w2.mono ?_
      rintro e w' ⟨rfl, hw⟩
      rw [← hw]
      clear hw w2
      cases b2 with
      | false =>
        go_wp2_with fail
        go_ret
        exact ⟨by rw [HR.out]; simp, HB0.out⟩
      | true =>
        by_cases h3 : am ≤ 4611686018427387904
        · go_wp2_with fail
          with_reducible refine w4.mono ?_
          rintro e w' ⟨rfl, hw⟩
          rw [← hw]
          clear hw w4
          cases b4 with
          | false =>
            go_wp2_with fail
            go_ret
            exact ⟨by rw [HR.out]; simp, HB0.out⟩
          | true =>
            go_wp2_with fail
            with_reducible refine w5.mono ?_
            rintro e w' ⟨rfl, hw⟩
            rw [← hw]
            clear hw w5
            go_wp2_with fail
            go_ret
            exact ⟨by rw [HR.out]; simp [h3], HB0.out⟩
        · go_wp2_with fail
          go_ret
          exact ⟨by rw [HR.out]; simp [show ¬ am ≤ 4611686018427387904 by omega], HB0.out⟩

set_option maxHeartbeats 4000000 in
theorem headright_any (h : HeadD) (hb : h.Bd) (w : World) :
    Calls Tryz.prog 106 #[.agg (headV h).toArray] w fun x w' => x = .returned (.bool (rightH h)) ∧ Below w.heap.size w w' := by
  have b0 := Blk.new w 46 (headV h).toArray
  have B0 : Below w.heap.size w (w.alloc (.cells (headV h).toArray 46)) := (Below.refl _ w).alloc (Nat.le_refl _) _
  obtain ⟨W, hW⟩ : ∃ W, w.alloc (.cells (headV h).toArray 46) = W := ⟨_, rfl⟩
  obtain ⟨g, hg⟩ : ∃ g, w.heap.size = g := ⟨_, rfl⟩
  rw [hW] at B0
  rw [hW, hg] at b0
  have k0 : W.cell? ⟨g, 0, none⟩ = some (.int .i64 h.sh) := b0.cell 0
  have k1 : W.cell? ⟨g, 1, none⟩ = some (.int .i64 h.ht) := b0.cell 1
  have k2 : W.cell? ⟨g, 2, none⟩ = some (.int .i64 h.ep) := b0.cell 2
  have hld := LDs_aggB (P := Tryz.prog) uHead iHead b0 (off := 0) (headV h) (headV_len hb) (by simp [List.take_of_length_le, headV_len hb])
  have hbd := bdHead0
  obtain ⟨r, hr, hiff⟩ := NEs_head hb zeroH_bd W
  obtain ⟨z, hz⟩ : ∃ z, (headV zeroH).toArray = z := ⟨_, rfl⟩
  obtain ⟨y, hy⟩ : ∃ y, (headV h).toArray = y := ⟨_, rfl⟩
  have hz0 := fun e => headK_zero (hiff.1 e)
  obtain ⟨b1, h1⟩ : ∃ b, decide (0 ≤ h.sh ∧ h.sh ≤ 63) = b := ⟨_, rfl⟩
  obtain ⟨b2, h2⟩ : ∃ b, decide (1 ≤ h.ht ∧ h.ht ≤ 1099511627776) = b := ⟨_, rfl⟩
  obtain ⟨b3, h3⟩ : ∃ b, decide (0 ≤ h.ep ∧ h.ep ≤ 1099511627776) = b := ⟨_, rfl⟩
  have hR : rightH h = (b1 && (b2 && b3)) := by
    rw [← h1, ← h2, ← h3]
    unfold rightH
    simp only [Bool.decide_and, Bool.and_assoc]
  have w1 := hwithin_any h.sh 0 63 W
  have w2 := hwithin_any h.ht 1 1099511627776 W
  have w3 := hwithin_any h.ep 0 1099511627776 W
  rw [h1] at w1
  rw [h2] at w2
  rw [h3] at w3
  obtain ⟨R, hRR⟩ : ∃ R, rightH h = R := ⟨_, rfl⟩
  rw [hRR] at hR hz0 ⊢
  rw [hy] at hW hr hld ⊢
  rw [hz] at hr hbd
  obtain ⟨a, s, ep, prev, root⟩ := h
  simp only at k0 k1 k2 w1 w2 w3 hz0 ⊢
  have HW := Lib.hid hW
  have HG := Lib.hid hg
  have HB0 := Lib.hid B0
  have HZ0 := Lib.hid hz0
  have HR := Lib.hid hR
  clear hW hg B0 b0 hiff hz hy hb hR h1 h2 h3 hz0 hRR
  cases r with
  | true =>
    rw [Bool.not_true] at hr
    go_enter Tryz.func106, Tryz.ntmps106
    go_upto_region 1 with fail
    rw [HW.out, HG.out]
    go_wp2_with fail
    go_ret
    exact ⟨by rw [show R = false from HZ0.out (by simp)]; rfl, HB0.out⟩
  | false =>
    rw [Bool.not_false] at hr
    clear HZ0
    go_enter Tryz.func106, Tryz.ntmps106
    go_upto_region 1 with fail
    rw [HW.out, HG.out]
    go_wp2_with fail
    with_reducible refine w1.mono ?_
    rintro e w' ⟨rfl, hw⟩
    rw [← hw]
    clear hw w1
    cases b1 with
    | false =>
      go_wp2_with fail
      go_ret
      exact ⟨by rw [HR.out]; simp, HB0.out⟩
    | true =>
      go_wp2_with fail
      with_reducible refine w2.mono ?_
      rintro e w' ⟨rfl, hw⟩
      rw [← hw]
      clear hw w2
      cases b2 with
      | false =>
        go_wp2_with fail
        go_ret
        exact ⟨by rw [HR.out]; simp, HB0.out⟩
      | true =>
        go_wp2_with fail
        with_reducible refine w3.mono ?_
        rintro e w' ⟨rfl, hw⟩
        rw [← hw]
        clear hw w3
        go_wp2_with fail
        go_ret
        exact ⟨by rw [HR.out]; simp, HB0.out⟩
end Go.Proofs.YtmflhidmhefljaaGreatDoor
end

section
namespace Go.Proofs.YtmflhidmhefljaaGreatDoor
open Go.RowKit Go.Shelf
set_option maxRecDepth 100000

set_option maxHeartbeats 4000000 in
theorem rentright_any (e : EntD) (he : e.Bd) (w : World) :
    Calls Tryz.prog 53 #[.agg (entV e).toArray] w fun x w' => x = .returned (.bool (rightE e)) ∧ Below w.heap.size w w' := by
  have b0 := Blk.new w 43 (entV e).toArray
  have B0 : Below w.heap.size w (w.alloc (.cells (entV e).toArray 43)) := (Below.refl _ w).alloc (Nat.le_refl _) _
  obtain ⟨W, hW⟩ : ∃ W, w.alloc (.cells (entV e).toArray 43) = W := ⟨_, rfl⟩
  obtain ⟨g, hg⟩ : ∃ g, w.heap.size = g := ⟨_, rfl⟩
  rw [hW] at B0
  rw [hW, hg] at b0
  have k0 : W.cell? ⟨g, 0, none⟩ = some (.int .i64 e.kind) := b0.cell 0
  have k1 : W.cell? ⟨g, 1, none⟩ = some (.int .i64 e.sh) := b0.cell 1
  have k34 : W.cell? ⟨g, 34, none⟩ = some (.int .u64 e.am) := (b0.cell 34).trans (entV_c3 he).1
  have k35 : W.cell? ⟨g, 35, none⟩ = some (.int .i64 e.why) := (b0.cell 35).trans (entV_c3 he).2.1
  have k36 : W.cell? ⟨g, 36, none⟩ = some (.int .i64 e.ep) := (b0.cell 36).trans (entV_c3 he).2.2
  have hR : rightE e = rightE e := rfl
  conv at hR => rhs; unfold rightE
  obtain ⟨R, hRR⟩ : ∃ R, rightE e = R := ⟨_, rfl⟩
  rw [hRR] at hR ⊢
  obtain ⟨y, hy⟩ : ∃ y, (entV e).toArray = y := ⟨_, rfl⟩
  rw [hy] at hW ⊢
  obtain ⟨a, s, tx, am, wy, ep⟩ := e
  simp only at k0 k1 k34 k35 k36 hR
  have HW := Lib.hid hW
  have HG := Lib.hid hg
  have HB0 := Lib.hid B0
  have HR := Lib.hid hR
  clear hW hg B0 b0 hy he hR hRR
  by_cases c0 : 1 ≤ a
  rotate_left
  · have hf : R = false := by rw [HR.out]; simp [c0]
    have HF := Lib.hid hf
    clear hf HR
    go_enter Tryz.func53, Tryz.ntmps53
    go_upto_region 1 with fail
    rw [HW.out, HG.out]
    go_wp2_with fail
    go_ret
    exact ⟨by rw [HF.out]; rfl, HB0.out⟩
  by_cases c1 : a ≤ 3
  rotate_left
  · have hf : R = false := by rw [HR.out]; simp [c0, c1]
    have HF := Lib.hid hf
    clear hf HR
    go_enter Tryz.func53, Tryz.ntmps53
    go_upto_region 1 with fail
    rw [HW.out, HG.out]
    go_wp2_with fail
    go_ret
    exact ⟨by rw [HF.out]; rfl, HB0.out⟩
  by_cases c2 : 0 ≤ s
  rotate_left
  · have hf : R = false := by rw [HR.out]; simp [c0, c1, c2]
    have HF := Lib.hid hf
    clear hf HR
    go_enter Tryz.func53, Tryz.ntmps53
    go_upto_region 1 with fail
    rw [HW.out, HG.out]
    go_wp2_with fail
    go_ret
    exact ⟨by rw [HF.out]; rfl, HB0.out⟩
  by_cases c3 : s ≤ 63
  rotate_left
  · have hf : R = false := by rw [HR.out]; simp [c0, c1, c2, c3]
    have HF := Lib.hid hf
    clear hf HR
    go_enter Tryz.func53, Tryz.ntmps53
    go_upto_region 1 with fail
    rw [HW.out, HG.out]
    go_wp2_with fail
    go_ret
    exact ⟨by rw [HF.out]; rfl, HB0.out⟩
  by_cases c4 : am ≤ 4611686018427387904
  rotate_left
  · have hf : R = false := by rw [HR.out]; simp [c0, c1, c2, c3, c4]
    have HF := Lib.hid hf
    clear hf HR
    go_enter Tryz.func53, Tryz.ntmps53
    go_upto_region 1 with fail
    rw [HW.out, HG.out]
    go_wp2_with fail
    go_ret
    exact ⟨by rw [HF.out]; rfl, HB0.out⟩
  by_cases c5 : 0 ≤ wy
  rotate_left
  · have hf : R = false := by rw [HR.out]; simp [c0, c1, c2, c3, c4, c5]
    have HF := Lib.hid hf
    clear hf HR
    go_enter Tryz.func53, Tryz.ntmps53
    go_upto_region 1 with fail
    rw [HW.out, HG.out]
    go_wp2_with fail
    go_ret
    exact ⟨by rw [HF.out]; rfl, HB0.out⟩
  by_cases c6 : wy ≤ 63
  rotate_left
  · have hf : R = false := by rw [HR.out]; simp [c0, c1, c2, c3, c4, c5, c6]
    have HF := Lib.hid hf
    clear hf HR
    go_enter Tryz.func53, Tryz.ntmps53
    go_upto_region 1 with fail
    rw [HW.out, HG.out]
    go_wp2_with fail
    go_ret
    exact ⟨by rw [HF.out]; rfl, HB0.out⟩
  by_cases c7 : 0 ≤ ep
  rotate_left
  · have hf : R = false := by rw [HR.out]; simp [c0, c1, c2, c3, c4, c5, c6, c7]
    have HF := Lib.hid hf
    clear hf HR
    go_enter Tryz.func53, Tryz.ntmps53
    go_upto_region 1 with fail
    rw [HW.out, HG.out]
    go_wp2_with fail
    go_ret
    exact ⟨by rw [HF.out]; rfl, HB0.out⟩
  by_cases c8 : ep ≤ 1099511627776
  rotate_left
  · have hf : R = false := by rw [HR.out]; simp [c0, c1, c2, c3, c4, c5, c6, c7, c8]
    have HF := Lib.hid hf
    clear hf HR
    go_enter Tryz.func53, Tryz.ntmps53
    go_upto_region 1 with fail
    rw [HW.out, HG.out]
    go_wp2_with fail
    go_ret
    exact ⟨by rw [HF.out]; rfl, HB0.out⟩
  have hf : R = true := by rw [HR.out]; simp [c0, c1, c2, c3, c4, c5, c6, c7, c8]
  have HF := Lib.hid hf
  clear hf HR
  go_enter Tryz.func53, Tryz.ntmps53
  go_upto_region 1 with fail
  rw [HW.out, HG.out]
  go_wp2_with fail
  go_ret
  exact ⟨by rw [HF.out]; rfl, HB0.out⟩

set_option maxHeartbeats 4000000 in
theorem rheadright_any (e : HeadD) (he : e.Bd) (w : World) :
    Calls Tryz.prog 54 #[.agg (headV e).toArray] w fun x w' => x = .returned (.bool (rightH e)) ∧ Below w.heap.size w w' := by
  have b0 := Blk.new w 46 (headV e).toArray
  have B0 : Below w.heap.size w (w.alloc (.cells (headV e).toArray 46)) := (Below.refl _ w).alloc (Nat.le_refl _) _
  obtain ⟨W, hW⟩ : ∃ W, w.alloc (.cells (headV e).toArray 46) = W := ⟨_, rfl⟩
  obtain ⟨g, hg⟩ : ∃ g, w.heap.size = g := ⟨_, rfl⟩
  rw [hW] at B0
  rw [hW, hg] at b0
  have k0 : W.cell? ⟨g, 0, none⟩ = some (.int .i64 e.sh) := b0.cell 0
  have k1 : W.cell? ⟨g, 1, none⟩ = some (.int .i64 e.ht) := b0.cell 1
  have k2 : W.cell? ⟨g, 2, none⟩ = some (.int .i64 e.ep) := b0.cell 2
  have hR : rightH e = rightH e := rfl
  conv at hR => rhs; unfold rightH
  obtain ⟨R, hRR⟩ : ∃ R, rightH e = R := ⟨_, rfl⟩
  rw [hRR] at hR ⊢
  obtain ⟨y, hy⟩ : ∃ y, (headV e).toArray = y := ⟨_, rfl⟩
  rw [hy] at hW ⊢
  obtain ⟨s, t, ep, prev, root⟩ := e
  simp only at k0 k1 k2 hR
  have HW := Lib.hid hW
  have HG := Lib.hid hg
  have HB0 := Lib.hid B0
  have HR := Lib.hid hR
  clear hW hg B0 b0 hy he hR hRR
  by_cases c0 : 0 ≤ s
  rotate_left
  · have hf : R = false := by rw [HR.out]; simp [c0]
    have HF := Lib.hid hf
    clear hf HR
    go_enter Tryz.func54, Tryz.ntmps54
    go_upto_region 1 with fail
    rw [HW.out, HG.out]
    go_wp2_with fail
    go_ret
    exact ⟨by rw [HF.out]; rfl, HB0.out⟩
  by_cases c1 : s ≤ 63
  rotate_left
  · have hf : R = false := by rw [HR.out]; simp [c0, c1]
    have HF := Lib.hid hf
    clear hf HR
    go_enter Tryz.func54, Tryz.ntmps54
    go_upto_region 1 with fail
    rw [HW.out, HG.out]
    go_wp2_with fail
    go_ret
    exact ⟨by rw [HF.out]; rfl, HB0.out⟩
  by_cases c2 : 1 ≤ t
  rotate_left
  · have hf : R = false := by rw [HR.out]; simp [c0, c1, c2]
    have HF := Lib.hid hf
    clear hf HR
    go_enter Tryz.func54, Tryz.ntmps54
    go_upto_region 1 with fail
    rw [HW.out, HG.out]
    go_wp2_with fail
    go_ret
    exact ⟨by rw [HF.out]; rfl, HB0.out⟩
  by_cases c3 : t ≤ 1099511627776
  rotate_left
  · have hf : R = false := by rw [HR.out]; simp [c0, c1, c2, c3]
    have HF := Lib.hid hf
    clear hf HR
    go_enter Tryz.func54, Tryz.ntmps54
    go_upto_region 1 with fail
    rw [HW.out, HG.out]
    go_wp2_with fail
    go_ret
    exact ⟨by rw [HF.out]; rfl, HB0.out⟩
  by_cases c4 : 0 ≤ ep
  rotate_left
  · have hf : R = false := by rw [HR.out]; simp [c0, c1, c2, c3, c4]
    have HF := Lib.hid hf
    clear hf HR
    go_enter Tryz.func54, Tryz.ntmps54
    go_upto_region 1 with fail
    rw [HW.out, HG.out]
    go_wp2_with fail
    go_ret
    exact ⟨by rw [HF.out]; rfl, HB0.out⟩
  by_cases c5 : ep ≤ 1099511627776
  rotate_left
  · have hf : R = false := by rw [HR.out]; simp [c0, c1, c2, c3, c4, c5]
    have HF := Lib.hid hf
    clear hf HR
    go_enter Tryz.func54, Tryz.ntmps54
    go_upto_region 1 with fail
    rw [HW.out, HG.out]
    go_wp2_with fail
    go_ret
    exact ⟨by rw [HF.out]; rfl, HB0.out⟩
  have hf : R = true := by rw [HR.out]; simp [c0, c1, c2, c3, c4, c5]
  have HF := Lib.hid hf
  clear hf HR
  go_enter Tryz.func54, Tryz.ntmps54
  go_upto_region 1 with fail
  rw [HW.out, HG.out]
  go_wp2_with fail
  go_ret
  exact ⟨by rw [HF.out]; rfl, HB0.out⟩
end Go.Proofs.YtmflhidmhefljaaGreatDoor
end
