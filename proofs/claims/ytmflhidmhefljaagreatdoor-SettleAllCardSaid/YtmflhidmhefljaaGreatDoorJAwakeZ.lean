/-
  seisinlaw23.awake.
-/
import Derived.Test.YtmflhidmhefljaaGreatDoorJRSetC
import Derived.Test.YtmflhidmhefljaaGreatDoorJMapE

namespace Go.Proofs.YtmflhidmhefljaaGreatDoor
open Go.RowKit Go.Shelf
set_option maxRecDepth 100000

theorem uCerts : Tryz.prog.underlying 28 = some (.slice 48) := by kernel_rfl
theorem iCerts : (Tryz.prog.info? 48).map (fun i => (i.zero.map (·.cells.size), i.size, i.bytes)) = some (some 137, 137, 216) := by kernel_rfl
theorem iCerts2 : (Tryz.prog.info? 48).map (fun i => (i.zero.map (·.cells.size), i.size)) = some (some 137, 137) := by kernel_rfl
theorem bsCert_of (n : Nat) (parts : Array (Nat × Value)) : Instr.buildSlice 28 n parts = BSs 28 n parts := rfl
theorem plEnt : placesOf Tryz.prog 43 = some [(0, 1), (1, 1), (2, 32), (34, 1), (35, 1), (36, 1)] := by kernel_rfl
theorem zlEnt : (((Tryz.prog.info? 43).bind (·.zero)).map (·.cells.toList)) = some (entV zeroE) := by kernel_rfl
theorem certs_nil (w : World) (A : Option Addr) : CertsAt w A [] := fun j h => absurd h (by simp)
theorem certs_one {w : World} {h : Nat} {t : TypeId} {c : CertD} {B : Option Addr} {cap : Nat} (hb : Blk w h t (certV c B cap).toArray) (hP : RdR 32 w B (c.path.map bys)) (hcap : c.path.length ≤ cap) (hn : B = none → cap = 0) (hc : c.Bd) : CertsAt w (some ⟨h, 0, none⟩) [c] := fun j hj => by
  obtain rfl : j = 0 := by simpa using hj
  refine ⟨h, 0, B, cap, rfl, hb.lt, ⟨fun k x hx => ?_, hP, hcap, hn, hc⟩⟩
  rw [show 0 + 0 * 137 + k = k by omega, hb.cell k]
  simpa using hx
/-- The example's entry. -/
def entE : EntD := ⟨1, 0, idP txE, 5, 0, 0⟩
theorem entE_bd : entE.Bd := ⟨by simp [entE, InI], by simp [entE, InI], ⟨show (idP txE).length = 32 from idP_len _, show ∀ x ∈ idP txE, 0 ≤ x ∧ x ≤ 255 from idP_bd _⟩, by simp [entE], by simp [entE, InI], by simp [entE, InI]⟩
theorem entE_right : rightE entE = true := (rightE_iff _).2 (by simp [entE])
theorem bdEnt_e (w : World) : (BDs 43 #[(0, .int .i64 1), (2, .agg (bys (idP txE)).toArray), (3, .int .u64 5)]).run Tryz.prog w = .ok (.agg (entV entE).toArray) w := by
  have hD : (bys (idP txE)).length = 32 := by rw [bys_length]; exact idP_len _
  refine BDs_list plEnt zlEnt _ _ ?_ w
  unfold entE
  obtain ⟨D, hDD⟩ : ∃ D, idP txE = D := ⟨_, rfl⟩
  rw [hDD] at hD ⊢
  rw [fillL_cons (off := 0) (size := 1) rfl rfl (by rw [entV_len zeroE_bd]; omega)]
  have e1 : (entV zeroE).take 0 ++ (Value.int .i64 1).cells.toList ++ (entV zeroE).drop (0 + 1) = entV ⟨1, 0, List.replicate 32 0, 0, 0, 0⟩ := rfl
  rw [e1, fillL_cons (off := 2) (size := 32) rfl (by simp [Value.cells, hD]) (by simp [entV, bys])]
  have e2 : (entV ⟨1, 0, List.replicate 32 0, 0, 0, 0⟩).take 2 ++ (Value.agg (bys D).toArray).cells.toList ++ (entV ⟨1, 0, List.replicate 32 0, 0, 0, 0⟩).drop (2 + 32) = entV ⟨1, 0, D, 0, 0, 0⟩ := by
    unfold entV
    simp [Value.cells, bys]
  rw [e2, fillL_cons (off := 34) (size := 1) rfl rfl (by simp [entV, hD]), fillL_nil]
  have e3 : (entV ⟨1, 0, D, 0, 0, 0⟩).take 34 ++ (Value.int .u64 5).cells.toList ++ (entV ⟨1, 0, D, 0, 0, 0⟩).drop (34 + 1) = entV ⟨1, 0, D, 5, 0, 0⟩ := by
    unfold entV
    simp [Value.cells, hD, List.drop_append]
  rw [e3]
/-- The example's certificate. -/
def certE : CertD := (madeP [1] [] entE 0).1
theorem certE_bd : certE.Bd := made_bd entE_bd entE_right (by omega)
theorem certE_e : certE.e = entE := by unfold certE; rw [madeP_yes entE_right (by omega)]
theorem certE_path : certE.path.length = 2 := by unfold certE; rw [madeP_yes entE_right (by omega)]; rfl
theorem sumE : sumAtP txE 1 0 = 5 := by
  unfold sumAtP
  rw [insE]
  rfl
theorem acc_nil : accP' [1] txE 1 [] = 27 := by
  unfold accP'
  rw [if_neg (by omega), if_neg (by rw [txE_check]; simp), eachE, if_pos (by simp)]
theorem acc_one : accP' [1] txE 1 [certE] = 0 := by
  unfold accP'
  rw [if_neg (by omega), if_neg (by rw [txE_check]; simp), eachE, if_neg (by simp), if_pos]
  unfold allGo allGo allOne
  have h := made_is [1] [] entE 0 1 entE_right (by omega) (by simp [entE])
  rw [show (madeP [1] [] entE 0).1 = certE from rfl] at h
  rw [h, certE_e, sumE]
  simp [entE]
theorem rej_one : rejP [1] txE 1 [certE] = 16 := by
  unfold rejP
  rw [if_neg (by omega), if_neg (by rw [txE_check]; simp), if_neg (by simp), if_neg]
  rw [show ([certE] : List CertD).getD 0 default = certE from rfl]
  unfold rejOne
  rw [certE_e]
  simp [entE]

theorem bdTx_e (A B : Option Addr) (a b : Nat) (w : World) : (BDs 27 #[(0, .slice A 1 a), (1, .slice B 1 b)]).run Tryz.prog w = .ok (.agg (txV A a B b txE)) w := by kernel_rfl
theorem bdTx_of (parts : Array (Nat × Value)) : Instr.build 27 parts = BDs 27 parts := rfl
theorem stTx_of (v x : Value) : Instr.storeAt 27 v x = STs 27 v x := rfl
theorem alTx_of : Instr.alloc 27 true (.tuple #[]) = ALs 27 := rfl
theorem zTx : (((Tryz.prog.info? 27).bind (·.zero)).map (·.cells.size)) = some 4 := by kernel_rfl
attribute [local go_sem ↓] bdIn_of bdOut_of bsIn_of bsOut_of bdTx_of ldTx_of stTx_of alTx_of ldCert_of stCert_of alCert_of bsCert_of bdEnt_of

set_option maxHeartbeats 8000000 in
theorem awakeZ (w : World) (hg : Glob w) : Calls Tryz.prog 8 #[] w fun e w' => e = .returned (.bool true) ∧ Below w.heap.size w w' := by
  have hbx : Blk (w.alloc (.cells (bys [1]).toArray 5)) w.heap.size 5 (bys [1]).toArray := Blk.new w _ _
  have BX : Below w.heap.size w (w.alloc (.cells (bys [1]).toArray 5)) := (Below.refl _ w).alloc (Nat.le_refl _) _
  have hkeys := keys_any (some ⟨w.heap.size, 0, none⟩) 1 [1] 1 (w.alloc (.cells (bys [1]).toArray 5)) (by omega) (by omega) (by simp) (hbx.byt (by simp)) (hg.below BX)
  rw [show (bys [1]).toArray = #[.int .u8 1] from rfl, show ([1] : List Int).length = 1 from rfl, show ((1 : Nat) : Int) = 1 from rfl] at hkeys
  rw [show (bys [1]).toArray = #[.int .u8 1] from rfl] at BX
  have hin := bdIn_e
  have hout := bdOut_e
  have hbi := fun X => BSs_one (P := Tryz.prog) uInS iInZ (by omega) (by omega) X (.agg (inV inE none 0).toArray) (by simp [Value.cells, inV_len inE_bd])
  have hbo := fun X => BSs_one (P := Tryz.prog) uOutS iOutZ (by omega) (by omega) X (.agg (outV outE).toArray) (by simp [Value.cells, outV_len outE_bd])
  simp only [Value.cells] at hbi hbo
  have hbt := bdTx_e
  obtain ⟨Zt, halt, hstt, _⟩ := alstZ (P := Tryz.prog) (t := 27) iTx zTx
  obtain ⟨Zc, halc, hstc, _⟩ := alstZ (P := Tryz.prog) (t := 48) iCert zCert
  obtain ⟨xi, hxi⟩ : ∃ xi, (inV inE none 0).toArray = xi := ⟨_, rfl⟩
  obtain ⟨xo, hxo⟩ : ∃ xo, (outV outE).toArray = xo := ⟨_, rfl⟩
  simp only [hxi] at hin hbi
  simp only [hxo] at hout hbo
  have hst := fun X A a B b => hstt X (txV A a B b txE).toList rfl (by simp [txV, Value.oneCell'])
  simp only [show ∀ A a B b, (txV A a B b txE).toList.toArray = txV A a B b txE from fun A a B b => by simp] at hst
  have HXI := Lib.hid hxi
  have HXO := Lib.hid hxo
  have HG := Lib.hid hg
  have HBX := Lib.hid BX
  clear hxi hxo hg BX hbx hstt
  go_enter Tryz.func8, Tryz.ntmps8
  go_wp2_with fail
  with_reducible refine hkeys.mono ?_
  rintro e w1 ⟨p, rfl, hring, _, hB1⟩
  have hB1w := HBX.out.trans (hB1.mono HBX.out.size)
  have HR := Lib.hid hring
  have HB1 := Lib.hid hB1w
  clear hring hB1w hB1 hkeys
  have ht := hst ((w1.alloc (.cells xi 58)).alloc (.cells xo 61)) (some ⟨w1.heap.size, 0, none⟩) 1 (some ⟨w1.heap.size + 1, 0, none⟩) 1
  simp only [World.size_alloc] at ht
  have bi := (Blk.new w1 58 xi).alloc (.cells xo 61)
  have bo := Blk.new (w1.alloc (.cells xi 58)) 61 xo
  have B3 : Below w1.heap.size w1 ((w1.alloc (.cells xi 58)).alloc (.cells xo 61)) := ((Below.refl _ w1).alloc (Nat.le_refl _) _).alloc (by simp) _
  simp only [World.size_alloc] at bo
  obtain ⟨X, hX⟩ : ∃ X, (w1.alloc (.cells xi 58)).alloc (.cells xo 61) = X := ⟨_, rfl⟩
  rw [hX] at bi bo B3 ht
  have hT : TxAt X (some ⟨w1.heap.size, 0, none⟩) (some ⟨w1.heap.size + 1, 0, none⟩) txE := by
    refine ⟨fun j hj => ?_, fun j hj => ?_, txE_bd⟩
    · obtain rfl : j = 0 := by simpa [txE] using hj
      refine ⟨_, 0, none, 0, rfl, bi.lt, ⟨fun k x hx => ?_, Byt.nil _ _, Nat.le_refl _, fun _ => rfl, by simp [txE, inE]⟩⟩
      rw [show 0 + 0 * 35 + k = k by omega, bi.cell k, ← HXI.out]
      simpa [txE] using hx
    · obtain rfl : j = 0 := by simpa [txE] using hj
      refine ⟨_, 0, rfl, bo.lt, fun k x hx => ?_⟩
      rw [show 0 + 0 * 33 + k = k by omega, bo.cell k, ← HXO.out]
      simpa [txE] using hx
  have hXs : X.heap.size = w1.heap.size + 1 + 1 := by rw [← hX]; simp
  obtain ⟨ga, hga⟩ : ∃ g, w1.heap.size = g := ⟨_, rfl⟩
  rw [hga] at ht hT hXs bi bo
  have bt := Blk.new X 27 (txV (some ⟨ga, 0, none⟩) 1 (some ⟨ga + 1, 0, none⟩) 1 txE)
  have B4 := B3.alloc B3.size (.cells (txV (some ⟨ga, 0, none⟩) 1 (some ⟨ga + 1, 0, none⟩) 1 txE) 27)
  have hT4 := hT.below ((Below.refl _ X).alloc (Nat.le_refl _) (.cells (txV (some ⟨ga, 0, none⟩) 1 (some ⟨ga + 1, 0, none⟩) 1 txE) 27))
  rw [hXs] at bt
  obtain ⟨tv, htv⟩ : ∃ t, txV (some ⟨ga, 0, none⟩) 1 (some ⟨ga + 1, 0, none⟩) 1 txE = t := ⟨_, rfl⟩
  have htl : tv.toList.length = 4 := by rw [← htv]; rfl
  have hbt1 := hbt (some ⟨ga, 0, none⟩) (some ⟨ga + 1, 0, none⟩) 1 1
  simp only [htv] at hbt1
  rw [htv] at ht bt B4 hT4
  obtain ⟨Y, hY⟩ : ∃ Y, X.alloc (.cells tv 27) = Y := ⟨_, rfl⟩
  rw [hY] at ht bt B4 hT4
  rw [← hX] at ht
  rw [← hga] at ht hbt1
  have HX := Lib.hid hX
  have HY := Lib.hid hY
  have HGA := Lib.hid hga
  have HT := Lib.hid hT4
  have HBT := Lib.hid bt
  have HY1 := Lib.hid (HB1.out.trans (B4.mono HB1.out.size))
  have HTV := Lib.hid htv
  have HTL := Lib.hid htl
  have HB4 := Lib.hid B4
  clear hX hY hga hT4 bt htv htl B4 bi bo B3 hT hXs hst hbt
  go_upto_region 3 with fail
  rw [HGA.out]
  clear ht hbt1 hin hout hbi hbo halt
  have hld := fun X (hX : Below Y.heap.size Y X) => LDs_all (P := Tryz.prog) uTx iTx tv.toList (by simpa using HBT.out.fr (Fr.of_below hX) (by have := HBT.out.lt; omega)) HTL.out
  simp only [show tv.toList.toArray = tv by simp] at hld
  have hbs : Blk (Y.alloc (.cells (bys [1]).toArray 5)) Y.heap.size 5 (bys [1]).toArray := Blk.new Y _ _
  have BS : Below Y.heap.size Y (Y.alloc (.cells (bys [1]).toArray 5)) := (Below.refl _ Y).alloc (Nat.le_refl _) _
  have hby := hbs.byt (by simp)
  rw [show (bys [1]).toArray = #[.int .u8 1] from rfl] at BS hby
  have hld3 := hld _ BS
  have hrid := rid_any (some ⟨ga, 0, none⟩) 1 (some ⟨ga + 1, 0, none⟩) 1 txE (Y.alloc (.cells #[.int .u8 1] 5)) (HT.out.below BS) txE_check
  rw [HTV.out] at hrid
  have hbe := bdEnt_e
  have hmade := fun X (hX : Below (Y.alloc (.cells #[.int .u8 1] 5)).heap.size (Y.alloc (.cells #[.int .u8 1] 5)) X) => made_any (some ⟨Y.heap.size, 0, none⟩) 1 [1] (by simp) none 0 (fun _ => rfl) [] entE entE_bd entE_right 0 (by omega) X (hby.below hX) (Byt.nil _ _) (by simp)
  simp only [show (madeP [1] [] entE 0).1 = certE from rfl] at hmade
  simp only [show ([1] : List Int).length = 1 from rfl, show ([] : List Int).length = 0 from rfl, show ((0 : Nat) : Int) = 0 from rfl] at hmade
  obtain ⟨D, hD⟩ : ∃ D, (bys (idP txE)).toArray = D := ⟨_, rfl⟩
  rw [hD] at hrid
  simp only [hD] at hbe
  obtain ⟨ev, hev⟩ : ∃ D, (entV entE).toArray = D := ⟨_, rfl⟩
  simp only [hev] at hbe hmade
  have HLD := Lib.hid hld
  have HM := Lib.hid hmade
  have HBS := Lib.hid BS
  clear hld hmade BS hbs hby hD hev
  go_wp2_with fail
  with_reducible refine hrid.mono ?_
  rintro e w2 ⟨rfl, hB2⟩
  have hm2 := HM.out w2 hB2
  have hB2Y := HBS.out.trans (hB2.mono HBS.out.size)
  have HB2 := Lib.hid hB2Y
  clear hB2Y hB2 hrid hld3
  go_wp2_with fail
  with_reducible refine hm2.mono ?_
  rintro e w3 ⟨B, cap, rfl, hrd, hcap, hnl, hB3⟩
  have hB3Y := HB2.out.trans (hB3.mono HB2.out.size)
  have hcl := certV_len certE_bd B cap
  have hst3 := hstc w3 (certV certE B cap) hcl (certV_one _ _ _)
  have q1 := Blk.new w3 48 (certV certE B cap).toArray
  have q2 := hB3Y.alloc hB3Y.size (.cells (certV certE B cap).toArray 48)
  have rd3 := hrd.below ((Below.refl _ w3).alloc (Nat.le_refl _) (.cells (certV certE B cap).toArray 48))
  obtain ⟨cs, hcs⟩ : ∃ x, certV certE B cap = x := ⟨_, rfl⟩
  rw [hcs] at hcl hst3 q1 q2 rd3 ⊢
  obtain ⟨U, hU⟩ : ∃ X, w3.alloc (.cells cs.toArray 48) = X := ⟨_, rfl⟩
  rw [hU] at q1 q2 rd3 hst3
  have hldc := fun X (hX : Below U.heap.size U X) => LDs_all (P := Tryz.prog) uCert iCert cs (q1.fr (Fr.of_below hX) (by have := q1.lt; omega)) hcl
  have hbc := fun X => BSs_one (P := Tryz.prog) uCerts iCerts2 (by omega) (by omega) X (.agg cs.toArray) (by simp [Value.cells, hcl])
  have hUw := HY1.out.trans (q2.mono HY1.out.size)
  have hldt := fun X (hX : Below U.heap.size U X) => HLD.out X (q2.trans (hX.mono q2.size))
  have hTU := HT.out.below q2
  have hU1 := HB4.out.trans (q2.mono HB4.out.size)
  have hRU := HR.out.below hU1
  have hGU := HG.out.below hUw
  have hK : ∀ c ∈ [certE], c.path.length ≤ 1000000 := by simp [certE_path]
  have a1 := setall_any p 1 [1] (some ⟨ga, 0, none⟩) 1 (some ⟨ga + 1, 0, none⟩) 1 txE none 0 [] U hRU (by omega) (by omega) hTU hGU (by simp [txE]) (by simp [txE]) (certs_nil _ _) (by simp) (by simp)
  have a2 := fun X (hX : Below U.heap.size U X) h (hc : CertsAt X (some ⟨h, 0, none⟩) [certE]) => setall_any p 1 [1] (some ⟨ga, 0, none⟩) 1 (some ⟨ga + 1, 0, none⟩) 1 txE (some ⟨h, 0, none⟩) 1 [certE] X (hRU.below hX) (by omega) (by omega) (hTU.below hX) (hGU.below hX) (by simp [txE]) (by simp [txE]) hc hK (by simp)
  have a3 := fun X (hX : Below U.heap.size U X) h (hc : CertsAt X (some ⟨h, 0, none⟩) [certE]) => setone_any p 1 [1] (some ⟨ga, 0, none⟩) 1 (some ⟨ga + 1, 0, none⟩) 1 txE (some ⟨h, 0, none⟩) 1 [certE] X (hRU.below hX) (by omega) (by omega) (hTU.below hX) (hGU.below hX) (by simp [txE]) (by simp [txE]) hc hK
  have a4 := fun X (hX : Below U.heap.size U X) => setsum_any (some ⟨ga, 0, none⟩) 1 (some ⟨ga + 1, 0, none⟩) 1 txE 1 0 (by omega) X (hTU.below hX) (hGU.below hX) (by simp [txE]) (by simp [txE])
  rw [show ((1 : Nat) : Int) = 1 from rfl, acc_nil, show ([] : List CertD).length = 0 from rfl, HTV.out] at a1
  simp only [show ((1 : Nat) : Int) = 1 from rfl, acc_one, rej_one, sumE, show ([certE] : List CertD).length = 1 from rfl, HTV.out] at a2 a3 a4
  have hmk : ∀ X, Below U.heap.size U X → CertsAt (X.alloc (.cells cs.toArray 48)) (some ⟨X.heap.size, 0, none⟩) [certE] := fun X hX => by
    have hb := Blk.new X 48 cs.toArray
    rw [← hcs] at hb ⊢
    exact certs_one hb ((rd3.below hX).below ((Below.refl _ X).alloc (Nat.le_refl _) _)) hcap hnl certE_bd
  have ht0 := hldt U (Below.refl _ _)
  have HUB := Lib.hid q2
  have A2H := Lib.hid a2
  have A3H := Lib.hid a3
  have A4H := Lib.hid a4
  have HLT := Lib.hid hldt
  have HLC := Lib.hid hldc
  have HMK := Lib.hid hmk
  have HYY := Lib.hid hUw
  clear q2 a2 a3 a4 hldt hldc hmk hUw hB3 hB3Y hm2 hrd hcap hnl hcs hU q1 rd3 hTU hU1 hRU hGU hK hcl hstc
  go_wp2_with fail
  with_reducible refine a1.mono ?_
  rintro e u1 ⟨rfl, hu1⟩
  have t1 := HLT.out u1 hu1
  have c1 := HLC.out u1 hu1
  have a2 := A2H.out _ (hu1.alloc hu1.size (.cells cs.toArray 48)) _ (HMK.out u1 hu1)
  have hu1a := hu1.alloc hu1.size (.cells cs.toArray 48)
  have HU1 := Lib.hid hu1a
  clear hu1a hu1 a1 ht0
  go_wp2_with fail
  with_reducible refine a2.mono ?_
  rintro e u2 ⟨rfl, hu2⟩
  have hu2U := HU1.out.trans (hu2.mono HU1.out.size)
  have t2 := HLT.out u2 hu2U
  have c2 := HLC.out u2 hu2U
  have a3 := A3H.out _ (hu2U.alloc hu2U.size (.cells cs.toArray 48)) _ (HMK.out u2 hu2U)
  have HU2 := Lib.hid (hu2U.alloc hu2U.size (.cells cs.toArray 48))
  clear hu2 hu2U a2 t1 c1
  go_wp2_with fail
  with_reducible refine a3.mono ?_
  rintro e u3 ⟨rfl, hu3⟩
  have hu3U := HU2.out.trans (hu3.mono HU2.out.size)
  have t3 := HLT.out u3 hu3U
  have a4 := A4H.out u3 hu3U
  have HU3 := Lib.hid hu3U
  clear hu3U hu3 a3 t2 c2
  go_wp2_with fail
  with_reducible refine a4.mono ?_
  rintro e u4 ⟨rfl, hu4⟩
  have hu4U := HU3.out.trans (hu4.mono HU3.out.size)
  have HU4 := Lib.hid hu4U
  clear hu4U hu4 a4 t3
  go_wp2_with fail
  go_ret
  exact ⟨rfl, HYY.out.trans (HU4.out.mono HYY.out.size)⟩
end Go.Proofs.YtmflhidmhefljaaGreatDoor
