/- container/heap over the queue: down, Push, Pop. -/
import Derived.Test.YtjpnbhcoagnpjaaHeapC
namespace Go.Proofs.Ytjpnbhcoagnpjaa
open Go.RowKit Go.Proofs.YtjpnbhcoagnpjaaW.PrintWords Go.Proofs.YtjpnbhcoagnpjaaW.PrintLast Go.Proofs.YtjpnbhcoagnpjaaW.PrintMore
open Go.Proofs.Ytjpnbhcoagnpjaa.PHeatPicks
open HeapPure (swp upL dnL kid)
set_option linter.unusedVariables false
set_option linter.unusedSimpArgs false

def SomeBool (P : World → Prop) (e : Ending) (w : World) : Prop := (∃ b, e = .returned (.bool b)) ∧ P w
set_option maxHeartbeats 4000000 in
theorem down_calls (F : Fr) (xs : List S35) (qa n : Nat) (w : World) (h : HQ F w qa xs) (hnx : n ≤ xs.length) (hn : xs.length ≤ 1000000) :
    Calls Try.prog 48 #[.iface 69 (.pointer (some ⟨qa, 0, none⟩)), .int .i64 0, .int .i64 n] w (SomeBool fun w' => HQ F w' qa (dnL z35 ahd (n + 1) xs 0 n)) := by
  have H := Aside0.mk h
  clear h
  go_enter Try.func48, Try.ntmps48
  go_wp2_with fail
  go_loopw [7] (fun i wr => ∃ (i' k : Nat) (ys : List S35), i = .int .i64 i' ∧ i' ≤ 1000000 ∧ n ≤ ys.length ∧ ys.length ≤ 1000000 ∧ n < i' + k ∧ Aside0 (HQ F wr qa ys) ∧ Aside0 (dnL z35 ahd k ys i' n = dnL z35 ahd (n + 1) xs 0 n)) (fun i _ => 2000000 - (intOf i).toNat)
  case atStart => exact ⟨0, n + 1, xs, rfl, by omega, hnx, hn, by omega, H, ⟨rfl⟩⟩
  case round =>
    obtain ⟨i', k, ys, rfl, hi', hny, hn', hk, HY, HE⟩ := hrel
    obtain ⟨v, ho, hq, hl, hB⟩ := HY.out
    have HO := Aside0.mk ho
    have HQ1 := Aside0.mk hq
    have HB := Aside0.mk hB
    clear ho hq hB
    by_cases h0 : n ≤ 2 * i' + 1
    · have h0b : decide ((n : Int) ≤ 2 * (i' : Int) + 1) = true := by simp; omega
      go_wp2_with fail
      go_ret
      refine ⟨⟨_, rfl⟩, ?_⟩
      have he := HE.out
      cases k with
      | zero => rw [dnL] at he; exact he ▸ HY.out
      | succ k =>
        rw [dnL, if_pos h0] at he
        exact he ▸ HY.out
    · obtain ⟨k, rfl⟩ : ∃ m, k = m + 1 := ⟨k - 1, by omega⟩
      have he := HE.out
      rw [dnL, if_neg h0] at he
      have HE := Aside0.mk he
      clear he
      have h0b : decide ((n : Int) ≤ 2 * (i' : Int) + 1) = false := by simp; omega
      have h0c : decide (2 * (i' : Int) + 1 < 0) = false := by simp; omega
      have hm := m_less (W := wr) (v := v) (qa := qa) (blk_cell HQ1.out 0)
      by_cases h2 : 2 * i' + 2 < n
      case' pos =>
        have h2b : decide (2 * (i' : Int) + 1 + 1 < (n : Int)) = true := by simp; omega
        go_wp2_with fail
        refine (lessQ F v ys _ _ wr HO.out (by omega) (by omega) (by omega) (by omega) hn').mono ?_
        rintro e w2 ⟨rfl, hb2⟩
        rw [show (2 * (i' : Int) + 1 + 1).toNat = 2 * i' + 2 by omega, show (2 * (i' : Int) + 1).toNat = 2 * i' + 1 by omega]
        have HB2 := Aside0.mk hb2
        clear hb2 hm
        have HO2 := Aside0.mk (pw_own_below HO.out HB2.out)
        have HQ2 := Aside0.mk (blk_below HQ1.out HB2.out)
        have HBB := Aside0.mk (HB.out.below HB2.out)
        clear HO HQ1 HB
        have hm := m_less (W := w2) (v := v) (qa := qa) (blk_cell HQ2.out 0)
        cases hlt : ahd (ys.getD (2 * i' + 2) z35) (ys.getD (2 * i' + 1) z35)
        case' false =>
          have hkd : kid z35 ahd ys i' n = 2 * i' + 1 := by rw [kid, if_neg (fun h => by rw [hlt] at h; cases h.2)]
          rw [hkd] at HE
          obtain ⟨J, hJ⟩ : ∃ J, J = 2 * i' + 1 := ⟨_, rfl⟩
        case' true =>
          have hkd : kid z35 ahd ys i' n = 2 * i' + 2 := by rw [kid, if_pos ⟨h2, hlt⟩]
          rw [hkd] at HE
          obtain ⟨J, hJ⟩ : ∃ J, J = 2 * i' + 2 := ⟨_, rfl⟩
        all_goals
          rw [← hJ] at HE
          have HJ := Aside0.mk hJ
          have HL := Aside0.mk hlt
          clear hlt hkd hJ
      case' neg =>
        have h2b : decide (2 * (i' : Int) + 1 + 1 < (n : Int)) = false := by simp; omega
        have HO2 := HO
        have HQ2 := HQ1
        have HBB := HB
        have hkd : kid z35 ahd ys i' n = 2 * i' + 1 := by rw [kid, if_neg (fun h => h2 h.1)]
        rw [hkd] at HE
        obtain ⟨J, hJ⟩ : ∃ J, J = 2 * i' + 1 := ⟨_, rfl⟩
        rw [← hJ] at HE
        have HJ := Aside0.mk hJ
        clear hkd hJ HO HQ1 HB
      all_goals
        go_wp2_with fail
        refine (lessQ F v ys _ _ _ HO2.out (by omega) (by omega) (by omega) (by omega) hn').mono ?_
        rintro e w3 ⟨rfl, hb3⟩
        first
          | rw [show (2 * (i' : Int) + 1 + 1).toNat = J by have := HJ.out; omega, Int.toNat_natCast]
          | rw [show (2 * (i' : Int) + 1).toNat = J by have := HJ.out; omega, Int.toNat_natCast]
        have HB3 := Aside0.mk hb3
        clear hb3 hm
        have HO3 := Aside0.mk (pw_own_below HO2.out HB3.out)
        have HQ3 := Aside0.mk (blk_below HQ2.out HB3.out)
        have HB4 := Aside0.mk (HBB.out.below HB3.out)
        clear HO2 HQ2 HBB
        have hm := m_swap (W := w3) (v := v) (qa := qa) (blk_cell HQ3.out 0)
        cases hl2 : ahd (ys.getD J z35) (ys.getD i' z35)
        · have HL2 := Aside0.mk hl2
          clear hl2
          go_wp2_with fail
          go_ret
          have he := HE.out
          rw [HL2.out] at he
          simp only [Bool.false_eq_true, if_false] at he
          exact ⟨⟨_, rfl⟩, he ▸ ⟨⟨v, HO3.out, HQ3.out, hl, HB4.out⟩⟩⟩
        · have HL2 := Aside0.mk hl2
          clear hl2
          go_wp2_with fail
          refine (swapQ F qa v ys _ _ _ HO3.out HQ3.out hl HB4.out (by omega) (by omega) (by omega) (by omega) hn').mono ?_
          rintro e w5 ⟨rfl, hq5⟩
          have HQ5 : Aside0 (HQ F w5 qa (swp z35 ys i' J)) := ⟨by
            first
              | rwa [show (2 * (i' : Int) + 1 + 1).toNat = J by have := HJ.out; omega, Int.toNat_natCast] at hq5
              | rwa [show (2 * (i' : Int) + 1).toNat = J by have := HJ.out; omega, Int.toNat_natCast] at hq5⟩
          clear hq5 hm
          go_wp2_with fail
          go_roundw
          case rel =>
            have he := HE.out
            rw [HL2.out] at he
            simp only [if_true] at he
            have hJ := HJ.out
            refine ⟨J, k, _, by congr 1; omega, by omega, by rw [HeapPure.swp_length]; omega, by rw [HeapPure.swp_length]; exact hn', by omega, HQ5, ⟨he⟩⟩
          case measure => have hJ := HJ.out; simp [intOf]; omega
end Go.Proofs.Ytjpnbhcoagnpjaa
