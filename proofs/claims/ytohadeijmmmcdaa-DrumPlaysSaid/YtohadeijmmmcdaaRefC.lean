/-
  The document's drum: Write.
-/
import Derived.Test.YtohadeijmmmcdaaRefB
namespace Go.Proofs.Ytohadeijmmmcdaa
open Go.RowKit
attribute [local go_sem ↓] APs_of

theorem iz5' : (Try.prog.info? 5).map (fun i => (i.zero.map (·.cells.size), i.size, i.bytes)) = some (some 1, 1, 1) := by kernel_rfl
theorem iz66 : (Try.prog.info? 66).map (fun i => (i.zero.map (·.cells.size), i.size, i.bytes)) = some (some 2, 2, 32) := by kernel_rfl

/-- An empty slice that was just put together. -/
theorem own_empty (w : World) (e : TypeId) (base : Nat) (hb : base ≤ w.heap.size) : (w.alloc (.cells #[] e)).ownsRow base e 1 (.slice (some ⟨w.heap.size, 0, none⟩) 0 0) 0 [] :=
  ⟨by simp, .inr ⟨w.heap.size, 0, #[], rfl, hb, heap_alloc_new w _, Nat.le_refl _, by simp, by simp, by simp⟩⟩

/-- An owned row of 64 bytes is a sector's slice. -/
theorem RB.of_own {B : Nat} {w : World} {v : Value} {b : List Int} (h : w.ownsRow B 5 1 v 64 (bys b)) (hb : b.length = 64) : RB B w v b := by
  rcases h.2 with ⟨_, h0⟩ | ⟨g, cap, cur, rfl, hg, hh, _, _, _, ht⟩
  · omega
  · exact ⟨g, cap, cur, rfl, hg, hh, by simpa using ht, hb⟩

set_option maxRecDepth 100000 in
set_option maxHeartbeats 4000000 in
theorem rwrite_ok (B : Nat) (q : Nat) (lv wv : Value) (ls : List Value) (ws : List (Nat × Value)) (S : DS) (k : Nat) (A : Option Addr) (c : Nat) (b : List Int) (w : World) (h : IsRef B w q lv wv ls ws S) (hoff : S.off = false) (hf : S.fuse ≠ 1) (hk : k < S.sure.length) (hb64 : b.length = 64)
    (hb : Byt w A b) (hA : ∀ a, A = some a → a.block ≠ q) (hlen : S.waits.length ≤ 1000000) (hB : B ≤ w.heap.size) :
    Calls Try.prog 20 #[.pointer (some ⟨q, 0, none⟩), .int .i64 (k : Int), .slice A 64 c] w fun e w' => ∃ wv' ws', (e = .returned (.int .i64 0) ∧ IsRef B w' q lv wv' ls ws' (S.write k b).2 ∧ Fr (RF q lv wv) w w') := by
  obtain ⟨Al, capl, hlv⟩ := own_form h.l
  obtain ⟨Aw, capw, hwv⟩ := own_form h.w_
  obtain ⟨g, off, rfl, hg, hc⟩ := hb.cell (by omega)
  have H := Lib.hid h
  have hst := h.st
  rw [hoff] at hst
  have HFG := Lib.hid (fails_go q lv wv S.fuse w hst hf h.ok.f0 h.ok.f1)
  have c0 : w.cell? ⟨q, 0, none⟩ = some (.slice Al S.sure.length capl) := by rw [← hlv]; exact hst.cell 0
  have c3 : w.cell? ⟨q, 3, none⟩ = some (.bool false) := hst.cell 3
  have HLV := Lib.hid hlv
  have HWV := Lib.hid hwv
  have HO := Lib.hid hoff
  have HKK := Lib.hid hk
  have HF1 := Lib.hid hf
  have HC := Lib.hid hc
  have HBD := Lib.hid hb.bd
  have HB64 := Lib.hid hb64
  have HGQ := Lib.hid (hA _ rfl)
  have z1 : decide ((k : Int) < 0) = false := by simp
  have z2 : decide (S.sure.length ≤ k) = false := by simpa using hk
  clear h hoff hf hst hlv hwv hc hb hb64 hA hk
  go_enter Try.func20, Try.ntmps20
  go_wp2_with fail
  refine HFG.out.mono ?_
  rintro e w1 ⟨rfl, hd1, hf1⟩
  clear HFG c0 c3 z1 z2
  have hown1 : w1.ownsRow B 66 2 wv S.waits.length (ws.map rrow).flatten := own_fr H.out.w_ hf1 (fun j hj e => H.out.ne_q.2 (e ▸ hj))
  have hB1 : B ≤ w1.heap.size := Nat.le_trans hB hf1.size
  have c1 : w1.drew.cell? ⟨q, 1, none⟩ = some (.slice Aw S.waits.length capw) := by rw [← HWV.out]; exact hd1.cell 1
  have c1a : (w1.alloc (.cells #[] 5)).drew.cell? ⟨q, 1, none⟩ = some (.slice Aw S.waits.length capw) := by rw [← HWV.out]; exact (hd1.alloc _).cell 1
  have hap := APs_own (P := Try.prog) (t := 26) (ty := 26) Try.underlying26 iz5' (by omega) ((own_empty w1 5 B hB1).drew)
    (a := ⟨g, off, none⟩) (m := 64) (c := c) (bys b) (by simp [bys_length, HB64.out])
    (fun j u hu => by
      have hadd : (⟨g, off, none⟩ : Addr).add j = ⟨g, off + j, none⟩ := by unfold Addr.add; split <;> simp_all
      rw [hadd]
      rw [bys_get] at hu
      obtain ⟨x, hx, rfl⟩ := Option.map_eq_some_iff.1 hu
      have h1 : w1.cell? ⟨g, off + j, none⟩ = some (.int .u8 x) := (hf1.cell (p := ⟨g, off + j, none⟩) hg HGQ.out).trans (HC.out j x hx)
      rw [World.cell?_drew, World.cell?_alloc_lt _ _ _ (show g < _ from Nat.lt_of_lt_of_le hg hf1.size)]
      exact h1)
    (bys_one _) (by unfold maxLen; omega) (by omega) (by simp; omega)
  obtain ⟨vb, w2, hrun, hownb, hgr, hob⟩ := hap
  simp only [List.nil_append, Nat.zero_add] at hownb
  obtain ⟨Ab, capb, rfl⟩ := own_form hownb
  have hd2 : Blk w2 q 50 #[lv, wv, .int .i64 (dec S.fuse), .bool false] := Blk.grown ((hd1.alloc _).drew) hgr (fun e => by simp [Value.ownBlock] at e; have := hd1.lt; omega)
  have hown2 : w2.ownsRow B 66 2 wv S.waits.length (ws.map rrow).flatten := own_fr ((hown1.alloc (.cells #[] 5)).drew) (Fr.of_grown hgr) (fun j hj e => by
    simp [Value.ownBlock] at e
    have := (hown1.lt j hj).2
    omega)
  have c1b : w2.cell? ⟨q, 1, none⟩ = some (.slice Aw S.waits.length capw) := by rw [← HWV.out]; exact hd2.cell 1
  have hfr2 : Fr (fun j => j = q) w w2 := ((hf1.alloc _).drew).grown hgr (fun j hj e => by simp [Value.ownBlock] at e; have := hf1.size; omega)
  have c1c : (w2.alloc (.cells #[.int .i64 (k : Int), .slice Ab 64 capb] 66)).cell? ⟨q, 1, none⟩ = some (.slice Aw S.waits.length capw) := by rw [← HWV.out]; exact (hd2.alloc _).cell 1
  have hB2 : B ≤ w2.heap.size := Nat.le_trans hB hfr2.size
  have hap2 := APs_own (P := Try.prog) (t := 48) (ty := 48) Try.underlying48 iz66 (by omega) (hown2.alloc (.cells #[.int .i64 (k : Int), .slice Ab 64 capb] 66))
    (a := ⟨w2.heap.size, 0, none⟩) (m := 1) (c := 1) (rrow (k, .slice Ab 64 capb)) (by simp [rrow])
    (fun j u hu => by
      have hadd : (⟨w2.heap.size, 0, none⟩ : Addr).add j = ⟨w2.heap.size, j, none⟩ := by unfold Addr.add; split <;> simp_all
      rw [hadd]
      exact ((Blk.new w2 _ _).cell j).trans (by simpa [rrow] using hu))
    (by simp [rrow, Value.oneCell']) (by unfold maxLen; omega) (by omega) (by simp; omega)
  obtain ⟨vw, w3, hrun2, hown3, hgr3, hob3⟩ := hap2
  rw [HWV.out] at hrun2
  obtain ⟨A3, cap3, rfl⟩ := own_form hown3
  have hd3 : Blk w3 q 50 #[lv, wv, .int .i64 (dec S.fuse), .bool false] := Blk.grown (hd2.alloc _) hgr3 (fun e => H.out.ne_q.2 e)
  have cc3 : w3.cell? ⟨q, 1, none⟩ = some (.slice Aw S.waits.length capw) := by rw [← HWV.out]; exact hd3.cell 1
  have ff3 := hd3.frozen 1
  have hfr3 : Fr (fun j => j = q ∨ wv.ownBlock = some j) w w3 := ((hfr2.mono fun j _ e => .inl e).alloc _).grown hgr3 (fun j _ e => .inr e)
  have hfr23 : Fr (fun j => j = q ∨ wv.ownBlock = some j) w2 w3 := ((Fr.refl _ w2).alloc _).grown hgr3 (fun j _ e => .inr e)
  have hnt2 : ∀ j cs, Blk w2 j 5 cs → ¬ (j = q ∨ wv.ownBlock = some j) := fun j cs hj h => by
    rcases h with rfl | h
    · exact absurd (hj.inj hd2).1 (by decide)
    · exact own_ne hown2 hj (by decide) h
  have hnt : ∀ j t cs, Blk w j t cs → t ≠ 50 → t ≠ 66 → ¬ (j = q ∨ wv.ownBlock = some j) := fun j t cs hj h1 h2 h => by
    rcases h with rfl | h
    · exact h1 (hj.inj H.out.st).1
    · exact own_ne H.out.w_ hj h2.symm h
  have HD3 := Lib.hid hd3
  have HOW := Lib.hid hown3
  have HFR := Lib.hid hfr3
  have HOB := Lib.hid hownb
  have HFR23 := Lib.hid hfr23
  have HN2 := Lib.hid hnt2
  have HN := Lib.hid hnt
  clear hd1 hf1 hown1 hgr hob hd2 hown2 hfr2 hgr3 hob3 hd3 hown3 hfr3 hownb hfr23 hnt2 hnt
  go_wp2_with fail
  go_region
  all_goals
    go_wp2_with fail
    go_ret
    have hS : (S.write k b).2 = { S with fuse := dec S.fuse, waits := S.waits ++ [(k, b)] } := by
      have hk' : ¬ ((k : Int) < 0 ∨ (S.sure.length : Int) ≤ k) := by
        have := HKK.out
        omega
      unfold DS.write
      rw [HO.out, if_neg (by decide), if_neg hk', if_neg (by rw [HB64.out]; simp), if_neg HF1.out]
      rfl
    have hset : Fr (fun j => j = q ∨ wv.ownBlock = some j) w3 (w3.setCell ⟨q, 1, none⟩ (.slice A3 (S.waits.length + 1) cap3)) := (Fr.refl _ w3).setCell (p := ⟨q, 1, none⟩) (fun _ => .inl rfl) _
    have hfr : Fr (fun j => j = q ∨ wv.ownBlock = some j) w (w3.setCell ⟨q, 1, none⟩ (.slice A3 (S.waits.length + 1) cap3)) := HFR.out.trans hset (fun _ _ e => e)
    have hfr2 : Fr (fun j => j = q ∨ wv.ownBlock = some j) w2 (w3.setCell ⟨q, 1, none⟩ (.slice A3 (S.waits.length + 1) cap3)) := HFR23.out.trans hset (fun _ _ e => e)
    refine ⟨.slice A3 (S.waits.length + 1) cap3, ws ++ [(k, .slice Ab 64 capb)], rfl, ⟨DS.write_ok H.out.ok _ HBD.out, H.out.b1, ?_, ?_, ?_, ?_, ?_⟩, hfr.mono (fun j _ e => e.elim .inl (fun e => .inr (.inr e)))⟩
    · rw [hS, HO.out]
      simpa using HD3.out.set_ 1 (.slice A3 (S.waits.length + 1) cap3)
    · rw [hS]
      exact own_fr H.out.l hfr (fun j hj => by
        obtain ⟨cs, hb, _⟩ := own_blk H.out.l hj
        exact HN.out j _ cs hb (by decide) (by decide))
    · rw [hS]
      exact H.out.ll.fr hfr (fun j cs hb => HN.out j _ cs hb (by decide) (by decide))
    · rw [hS]
      simp only [List.map_append, List.map_cons, List.map_nil, List.flatten_append, List.flatten_cons, List.flatten_nil, List.append_nil, List.length_append, List.length_cons, List.length_nil, Nat.zero_add]
      exact own_fr (F := fun j => j = q) HOW.out ((Fr.refl (fun j => j = q) w3).setCell (p := ⟨q, 1, none⟩) (fun _ => rfl) _) (fun j hj e => own_ne HOW.out HD3.out (by decide) (e ▸ hj))
    · rw [hS]
      exact (H.out.ww.fr hfr (fun j cs hb => HN.out j _ cs hb (by decide) (by decide))).snoc rfl ((RB.of_own HOB.out HB64.out).fr hfr2 HN2.out)

theorem rwrite_down (q : Nat) (lv wv : Value) (fuse : Int) (k : Int) (v : Value) (w : World) (h : Blk w q 50 #[lv, wv, .int .i64 fuse, .bool true]) :
    Calls Try.prog 20 #[.pointer (some ⟨q, 0, none⟩), .int .i64 k, v] w fun e w' => e = .returned (.int .i64 21) ∧ w = w' := by
  have c3 : w.cell? ⟨q, 3, none⟩ = some (.bool true) := h.cell 3
  clear h
  go_enter Try.func20, Try.ntmps20
  go_wp2_with fail
  go_ret
  exact ⟨rfl, rfl⟩

theorem rwrite_range (q : Nat) (Al : Option Addr) (n capl : Nat) (wv : Value) (fuse : Int) (k : Int) (v : Value) (w : World) (h : Blk w q 50 #[.slice Al n capl, wv, .int .i64 fuse, .bool false]) (hk : k < 0 ∨ n ≤ k) :
    Calls Try.prog 20 #[.pointer (some ⟨q, 0, none⟩), .int .i64 k, v] w fun e w' => e = .returned (.int .i64 5) ∧ w = w' := by
  have c3 : w.cell? ⟨q, 3, none⟩ = some (.bool false) := h.cell 3
  have c0 : w.cell? ⟨q, 0, none⟩ = some (.slice Al n capl) := h.cell 0
  clear h
  by_cases h0 : k < 0
  · have z1 : decide (k < 0) = true := by simpa using h0
    clear hk
    go_enter Try.func20, Try.ntmps20
    go_wp2_with fail
    go_ret
    exact ⟨rfl, rfl⟩
  · have z1 : decide (k < 0) = false := by simpa using h0
    have z2 : decide ((n : Int) ≤ k) = true := by simp; omega
    clear hk
    go_enter Try.func20, Try.ntmps20
    go_wp2_with fail
    go_ret
    exact ⟨rfl, rfl⟩

theorem rwrite_arg (q : Nat) (Al : Option Addr) (n capl : Nat) (wv : Value) (fuse : Int) (k : Int) (A : Option Addr) (m c : Nat) (w : World) (h : Blk w q 50 #[.slice Al n capl, wv, .int .i64 fuse, .bool false]) (h0 : 0 ≤ k) (h1 : k < n) (hm : m ≠ 64) :
    Calls Try.prog 20 #[.pointer (some ⟨q, 0, none⟩), .int .i64 k, .slice A m c] w fun e w' => e = .returned (.int .i64 1) ∧ w = w' := by
  have c3 : w.cell? ⟨q, 3, none⟩ = some (.bool false) := h.cell 3
  have c0 : w.cell? ⟨q, 0, none⟩ = some (.slice Al n capl) := h.cell 0
  have z1 : decide (k < 0) = false := by simp; omega
  have z2 : decide ((n : Int) ≤ k) = false := by simp; omega
  have z3 : ((m : Int) != 64) = true := by simp; omega
  have z4 : ((m : Int) == 64) = false := by simp; omega
  clear h hm
  go_enter Try.func20, Try.ntmps20
  go_wp2_with fail
  go_ret
  exact ⟨rfl, rfl⟩

theorem rwrite_crash (q : Nat) (Al : Option Addr) (n capl : Nat) (wv : Value) (k : Int) (A : Option Addr) (c : Nat) (w : World) (h : Blk w q 50 #[.slice Al n capl, wv, .int .i64 1, .bool false]) (h0 : 0 ≤ k) (h1 : k < n) :
    Calls Try.prog 20 #[.pointer (some ⟨q, 0, none⟩), .int .i64 k, .slice A 64 c] w fun e w' =>
      e = .returned (.int .i64 20) ∧ Blk w' q 50 #[.slice Al n capl, wv, .int .i64 0, .bool true] ∧ Fr (fun k => k = q) w w' := by
  have c3 : w.cell? ⟨q, 3, none⟩ = some (.bool false) := h.cell 3
  have c0 : w.cell? ⟨q, 0, none⟩ = some (.slice Al n capl) := h.cell 0
  have z1 : decide (k < 0) = false := by simp; omega
  have z2 : decide ((n : Int) ≤ k) = false := by simp; omega
  have HB := Lib.hid (fails_one q _ wv w h)
  clear h
  go_enter Try.func20, Try.ntmps20
  go_wp2_with fail
  refine HB.out.mono ?_
  rintro e w1 ⟨rfl, hd, hf⟩
  go_wp2_with fail
  go_ret
  exact ⟨rfl, hd, hf⟩

/-- A drum whose struct alone turned. -/
theorem IsRef.turn {B : Nat} {w w' : World} {q : Nat} {lv wv : Value} {ls : List Value} {ws : List (Nat × Value)} {S S' : DS} (h : IsRef B w q lv wv ls ws S) (hf : Fr (fun k => k = q) w w') (hok : S'.Ok) (e1 : S'.sure = S.sure) (e2 : S'.waits = S.waits)
    (hst : Blk w' q 50 #[lv, wv, .int .i64 S'.fuse, .bool S'.off]) : IsRef B w' q lv wv ls ws S' := by
  have hn : ∀ j t cs, Blk w j t cs → t ≠ 50 → ¬ j = q := fun j t cs hj h1 e => by
    subst e
    exact h1 (hj.inj h.st).1
  refine ⟨hok, h.b1, hst, ?_, ?_, ?_, ?_⟩
  · rw [e1]
    exact own_fr h.l hf (fun j hj => by obtain ⟨cs, hb, _⟩ := own_blk h.l hj; exact hn j _ cs hb (by decide))
  · rw [e1]
    exact h.ll.fr hf (fun j cs hb => hn j _ cs hb (by decide))
  · rw [e2]
    exact own_fr h.w_ hf (fun j hj => by obtain ⟨cs, hb, _⟩ := own_blk h.w_ hj; exact hn j _ cs hb (by decide))
  · rw [e2]
    exact h.ww.fr hf (fun j cs hb => hn j _ cs hb (by decide))

/-- WRITE, the document's. -/
theorem rwrite_any (B : Nat) (q : Nat) (lv wv : Value) (ls : List Value) (ws : List (Nat × Value)) (S : DS) (k : Int) (A : Option Addr) (c : Nat) (b : List Int) (w : World) (h : IsRef B w q lv wv ls ws S) (hb : Byt w A b) (hA : ∀ a, A = some a → a.block ≠ q) (hlen : S.waits.length ≤ 1000000) (hB : B ≤ w.heap.size) :
    Calls Try.prog 20 #[.pointer (some ⟨q, 0, none⟩), .int .i64 k, .slice A b.length c] w fun e w' =>
      e = .returned (.int .i64 (S.write k b).1) ∧ (∃ wv' ws', IsRef B w' q lv wv' ls ws' (S.write k b).2) ∧ Fr (RF q lv wv) w w' := by
  obtain ⟨Al, capl, hlv⟩ := own_form h.l
  have hst := h.st
  by_cases hoff : S.off = true
  · have e1 : S.write k b = (21, S) := by simp [DS.write, hoff]
    rw [hoff] at hst
    refine (rwrite_down q _ wv _ k _ w hst).mono ?_
    rintro e w' ⟨rfl, rfl⟩
    rw [e1]
    exact ⟨rfl, ⟨wv, ws, h⟩, Fr.refl _ _⟩
  have hoff : S.off = false := by simpa using hoff
  rw [hoff, hlv] at hst
  by_cases hk : k < 0 ∨ S.sure.length ≤ k
  · have e1 : S.write k b = (5, S) := by simp [DS.write, hoff, hk]
    refine (rwrite_range q _ _ _ wv _ k _ w hst hk).mono ?_
    rintro e w' ⟨rfl, rfl⟩
    rw [e1]
    exact ⟨rfl, ⟨wv, ws, h⟩, Fr.refl _ _⟩
  by_cases hb64 : b.length = 64
  · by_cases hf : S.fuse = 1
    · have e1 : S.write k b = (20, { S with fuse := 0, off := true }) := by simp [DS.write, hoff, hk, hb64, hf]
      have hok := DS.write_ok h.ok k hb.bd
      rw [hf] at hst
      rw [hb64]
      refine (rwrite_crash q _ _ _ wv k A c w hst (by omega) (by omega)).mono ?_
      rintro e w' ⟨rfl, hd, hfr⟩
      rw [e1] at hok ⊢
      rw [← hlv] at hd
      exact ⟨rfl, ⟨wv, ws, h.turn hfr hok rfl rfl hd⟩, hfr.mono fun k _ e => .inl e⟩
    · have e1 : (S.write k b).1 = 0 := by simp [DS.write, hoff, hk, hb64, hf]
      have e2 : ((k.toNat : Nat) : Int) = k := by omega
      have hwr := rwrite_ok B q lv wv ls ws S k.toNat A c b w h hoff hf (by omega) hb64 hb hA hlen hB
      rw [e2] at hwr
      rw [e1, hb64]
      refine hwr.mono ?_
      rintro e w' ⟨wv', ws', rfl, h1, h2⟩
      exact ⟨rfl, ⟨wv', ws', h1⟩, h2⟩
  · have e1 : S.write k b = (1, S) := by simp [DS.write, hoff, hk, hb64]
    refine (rwrite_arg q _ _ _ wv _ k A b.length c w hst (by omega) (by omega) hb64).mono ?_
    rintro e w' ⟨rfl, rfl⟩
    rw [e1]
    exact ⟨rfl, ⟨wv, ws, h⟩, Fr.refl _ _⟩

end Go.Proofs.Ytohadeijmmmcdaa
