/-
  SettleTells: 'is there more than is looked at?'.
-/
import Derived.Test.YtmflhidmhefljaaGreatDoorJAwakeZ

namespace Go.Proofs.YtmflhidmhefljaaGreatDoor
open Go.RowKit Go.Shelf
set_option maxRecDepth 100000
attribute [local go_sem ↓] ldTx_of

theorem certV_p {c : CertD} (h : c.Bd) (A : Option Addr) (cap : Nat) : (certV c A cap)[37]? = some (.slice A c.path.length cap) := by
  have := entV_len h.e
  rw [certV_eq, List.getElem?_append_right (by omega), this]
  rfl

def GrEnd (t : TxD) (l : List CertD) (e : Ending) : Prop := e = .returned (.bool true) ∨ (e = .returned (.bool false) ∧ l.length ≤ 20 ∧ (∀ c ∈ l, c.path.length ≤ 40) ∧ greatP t = false)

set_option maxHeartbeats 8000000 in
theorem great23_any (A1 : Option Addr) (c1 : Nat) (A2 : Option Addr) (c2 : Nat) (t : TxD) (A : Option Addr) (c : Nat) (l : List CertD) (w : World) (h : TxAt w A1 A2 t) (hC : CertsAt w A l) (hm : l.length ≤ maxLen) :
    Calls Tryz.prog 7 #[.agg (txV A1 c1 A2 c2 t), .slice A l.length c] w fun e w' => GrEnd t l e ∧ Below w.heap.size w w' := by
  have b0 := Blk.new w 27 (txV A1 c1 A2 c2 t)
  have B0 : Below w.heap.size w (w.alloc (.cells (txV A1 c1 A2 c2 t) 27)) := (Below.refl _ w).alloc (Nat.le_refl _) _
  obtain ⟨W, hW⟩ : ∃ W, w.alloc (.cells (txV A1 c1 A2 c2 t) 27) = W := ⟨_, rfl⟩
  rw [hW] at b0 B0
  obtain ⟨g, hgg⟩ : ∃ g, w.heap.size = g := ⟨_, rfl⟩
  rw [hgg] at b0
  have hld := LDs_all (P := Tryz.prog) uTx iTx (w := W) (txV A1 c1 A2 c2 t).toList (by simpa using b0) rfl
  have hgr := great_any A1 c1 A2 c2 t W (h.below B0)
  have hCW := hC.below B0
  obtain ⟨xs, hxs⟩ : ∃ xs, txV A1 c1 A2 c2 t = xs := ⟨_, rfl⟩
  rw [show (txV A1 c1 A2 c2 t).toList.toArray = txV A1 c1 A2 c2 t by simp, hxs] at hld
  rw [hxs] at hgr hW ⊢
  obtain ⟨n, hn⟩ : ∃ n, l.length = n := ⟨_, rfl⟩
  rw [hn] at hm ⊢
  have hmx : n ≤ 9223372036854775807 := Nat.le_trans hm (by decide)
  have HW := Lib.hid hW
  have HG := Lib.hid hgg
  have HB := Lib.hid B0
  have HC := Lib.hid hCW
  have HGR := Lib.hid hgr
  have HLD := Lib.hid hld
  have HN := Lib.hid hn
  clear hW hgg B0 hCW hgr hld hn h hC b0 hxs hm
  go_enter Tryz.func7, Tryz.ntmps7
  go_upto_region 1 with fail
  rw [HW.out, HG.out]
  go_upto_region 2 with fail
  go_loopg [5] 20 (fun kk s wr => ∃ j : Nat, j + kk = 20 ∧ j ≤ n ∧ s = .int .i64 (j : Int) ∧ (∀ i (h : i < l.length), i < j → (l[i]).path.length ≤ 40) ∧ W = wr)
  case atStart => exact ⟨0, by omega, by omega, rfl, fun i _ h => absurd h (by omega), rfl⟩
  case round =>
    obtain ⟨j, hj, hjn, rfl, hp, rfl⟩ := hrel
    by_cases hlt : j < n
    · have hltI : (j : Int) < (n : Int) := by omega
      by_cases h20 : j < 20
      · have h20I : (j : Int) < 20 := by omega
        have hjl : j < l.length := by have := HN.out; omega
        obtain ⟨gc, off, B, cap, rfl, hgc, hct⟩ := HC.out j hjl
        have k37 := hct.cell 37 _ (certV_p hct.bd B cap)
        have hj0 : (0 : Int) ≤ (j : Int) := by omega
        obtain ⟨pn, hpn⟩ : ∃ p, (l[j]).path.length = p := ⟨_, rfl⟩
        rw [hpn] at k37
        by_cases hbig : 40 < pn
        · have hbigI : (40 : Int) < (pn : Int) := by omega
          have HP := Lib.hid hp
          have HPN := Lib.hid hpn
          clear hp hpn hct
          go_wp2_with fail
          go_ret
          exact ⟨Or.inl rfl, HB.out⟩
        · have hbigI : ¬ (40 : Int) < (pn : Int) := by omega
          have HP := Lib.hid hp
          have HPN := Lib.hid hpn
          clear hp hpn hct
          go_wp2_with fail
          go_roundg (20 - (j + 1))
          case measure => omega
          case rel =>
            refine ⟨j + 1, by omega, by omega, by go_num, fun i hi hij => ?_, rfl⟩
            by_cases hi' : i < j
            · exact HP.out i hi hi'
            · obtain rfl : i = j := by omega
              rw [HPN.out]
              omega
      · obtain rfl : j = 20 := by omega
        have h20I : ¬ ((20 : Nat) : Int) < 20 := by omega
        by_cases hn20 : 20 < n
        · have hnI : (20 : Int) < (n : Int) := by omega
          have HP := Lib.hid hp
          clear hp h20
          go_wp2_with fail
          go_ret
          exact ⟨Or.inl rfl, HB.out⟩
        · omega
    · obtain rfl : j = n := by omega
      have hltI : ¬ (j : Int) < (j : Int) := by omega
      by_cases hn20 : 20 < j
      · omega
      · have hnI : ¬ (20 : Int) < (j : Int) := by omega
        have hgr := HGR.out
        have hld := HLD.out
        have hall : ∀ c ∈ l, c.path.length ≤ 40 := fun c hc => by
          obtain ⟨i, hi, rfl⟩ := List.getElem_of_mem hc
          exact hp i hi (by rw [HN.out] at hi; exact hi)
        by_cases hg : greatP t = true
        · rw [if_pos hg] at hgr
          have HA := Lib.hid hall
          clear hall hp
          go_wp2_with fail
          with_reducible refine hgr.mono ?_
          rintro e w1 ⟨rfl, hB1⟩
          have HB1 := Lib.hid hB1
          clear hB1 hgr hld
          go_wp2_with fail
          go_ret
          exact ⟨Or.inl rfl, HB.out.trans (HB1.out.mono HB.out.size)⟩
        · rw [if_neg hg] at hgr
          have HA := Lib.hid hall
          clear hall hp
          go_wp2_with fail
          with_reducible refine hgr.mono ?_
          rintro e w1 ⟨rfl, hB1⟩
          have HB1 := Lib.hid hB1
          clear hB1 hgr hld
          go_wp2_with fail
          go_ret
          exact ⟨Or.inr ⟨rfl, by have := HN.out; omega, HA.out, by simpa using hg⟩, HB.out.trans (HB1.out.mono HB.out.size)⟩
end Go.Proofs.YtmflhidmhefljaaGreatDoor
