/- heat.May computes whether files are valid. -/
import Derived.Test.YtjpnbhcoagnpjaaMapLaws
import Derived.Test.YtjpnbhcoagnpjaaPHeatPicksx2
namespace Go.Proofs.Ytjpnbhcoagnpjaa
open Go.RowKit Go.Proofs.YtjpnbhcoagnpjaaW.PrintWords Go.Proofs.YtjpnbhcoagnpjaaW.PrintLast Go.Proofs.YtjpnbhcoagnpjaaW.PrintMore
open Go.Proofs.Ytjpnbhcoagnpjaa.PHeatPicks
set_option linter.unusedVariables false
set_option linter.unusedSimpArgs false

def okH (x : S35) : Bool := decide (1 ≤ x.f0) && decide (x.f0 ≤ 39) && decide (0 ≤ x.f1) && decide (x.f1 ≤ 2147483647) && decide (0 ≤ x.f2) && decide (x.f2 ≤ 2147483647)
def inB (n h : Int) : Bool := decide (0 ≤ n) && decide (n ≤ h)
theorem in_calls (n h : Int) (w : World) : Calls Try.prog 35 #[.int .i64 n, .int .i64 h] w fun e w' => e = .returned (.bool (inB n h)) ∧ w = w' := by
  unfold inB
  by_cases h0 : 0 ≤ n
  · go_enter Try.func35, Try.ntmps35
    go_wp2_with fail
    all_goals go_ret
    all_goals exact ⟨by simp [h0], rfl⟩
  · have hd : decide (0 ≤ n) = false := by simpa using h0
    go_enter Try.func35, Try.ntmps35
    go_wp2_with fail
    all_goals go_ret
    all_goals exact ⟨by simp, rfl⟩
def mayR : List S35 → (Int → Bool) → Bool
  | [], _ => true
  | x :: r, S => okH x && !S x.f0 && mayR r (fun y => decide (y = x.f0) || S y)

theorem ret_bool {a b : Bool} (h : a = b) : Ending.returned (.bool a) = .returned (.bool b) := by rw [h]
theorem okH_eq (x : S35) : okH x = (decide (1 ≤ x.f0 ∧ x.f0 ≤ 39) && inB x.f1 2147483647 && inB x.f2 2147483647) := by
  rw [Bool.eq_iff_iff]
  simp [okH, inB]
  omega
theorem drop_cons {l : List S35} {k : Nat} (h : k < l.length) : l.drop k = rd_T35 l k :: l.drop (k + 1) := by
  rw [List.drop_eq_getElem_cons h]
  simp [rd_T35, List.getD_eq_getElem?_getD, List.getElem?_eq_getElem h]

set_option maxHeartbeats 1000000 in
set_option maxRecDepth 100000 in
theorem may_calls (A0 : Option Addr) (c0 : Nat) (l0 : List S35) (w : World) (hr0 : Kd.C k35 w A0 l0.length l0) (hc0 : l0.length ≤ c0) (hn : l0.length ≤ 1000000) :
    Calls Try.prog 34 #[.slice A0 l0.length c0] w fun e w' => e = .returned (.bool (mayR l0 (fun _ => false))) ∧ Below w.heap.size w w' := by
  have HR0 := Aside0.mk hr0
  clear hr0
  have hmm := @run_makeMap Try.prog
  go_enter Try.func34, Try.ntmps34
  go_wp2
  go_loopw [9] (fun i wr => ∃ k : Nat, k ≤ l0.length ∧ i = .int .i64 k ∧ Aside0 (∃ S c, SetAt Try.prog 3 4 wr w.heap.size k S c ∧ mayR (l0.drop k) S = mayR l0 (fun _ => false)) ∧ Aside0 (Below w.heap.size w wr)) (fun i _ => l0.length - (intOf i).toNat)
  case atStart => exact ⟨0, Nat.zero_le _, rfl, ⟨_, _, SetAt.made _ _ _ _, rfl⟩, ⟨(Below.refl _ _).alloc (Nat.le_refl _) _⟩⟩
  case round =>
    obtain ⟨k, hk, rfl, HS, HB⟩ := hrel
    by_cases hlt : k < l0.length
    · obtain ⟨ad, rfl, hx0, hx1, hx2⟩ := at_T35 HR0.out k (by omega) (by omega)
      replace hx0 := (HB.out.cell (World.block_lt_of_cell? w _ hx0)).trans hx0
      replace hx1 := (HB.out.cell (World.block_lt_of_cell? w _ hx1)).trans hx1
      replace hx2 := (HB.out.cell (World.block_lt_of_cell? w _ hx2)).trans hx2
      rw [Int.toNat_natCast] at hx0 hx1 hx2
      obtain ⟨S, c, HS, HM⟩ := HS.out
      rw [drop_cons hlt, mayR] at HM
      have HM := Aside0.mk HM
      have HS := Aside0.mk HS
      by_cases h1 : 1 ≤ (rd_T35 l0 k).f0 ∧ (rd_T35 l0 k).f0 ≤ 39
      · have h1a := Aside0.mk h1
        obtain ⟨h1, h1'⟩ := h1
        have hlk : ∀ o : Obj, (Instr.lookup 61 (.map (some w.heap.size)) (.int .i64 (rd_T35 l0 k).f0) false).run Try.prog (wr.alloc o) = .ok (.bool (S (rd_T35 l0 k).f0)) (wr.alloc o) := fun o =>
          run_lookup_set 61 Try.underlying3 Try.underlying4 Try.underlying61 (by kernel_rfl) (HS.out.alloc o) _ (WalkArith.wf_i64 (by omega))
        cases hS : S (rd_T35 l0 k).f0
        · rw [hS] at hlk
          have hS := Aside0.mk hS
          go_wp2_with fail
          refine (in_calls _ _ _).mono ?_; rintro e w' ⟨rfl, rfl⟩
          cases hi1 : inB (rd_T35 l0 k).f1 2147483647
          · have H1 := Aside0.mk hi1
            go_wp2_with fail
            go_ret
            exact ⟨ret_bool (by rw [← HM.out, okH_eq, H1.out]; simp), HB.out.alloc HB.out.size _⟩
          · have H1 := Aside0.mk hi1
            go_wp2_with fail
            refine (in_calls _ _ _).mono ?_; rintro e w' ⟨rfl, rfl⟩
            cases hi2 : inB (rd_T35 l0 k).f2 2147483647
            · have H2 := Aside0.mk hi2
              go_wp2_with fail
              go_ret
              exact ⟨ret_bool (by rw [← HM.out, okH_eq, H2.out]; simp), HB.out.alloc HB.out.size _⟩
            · have H2 := Aside0.mk hi2
              go_wp2_with (at_mapUpdate; refine wpList_mapUpdate_set rfl _ _ _ 61 rfl Try.underlying3 Try.underlying4 Try.underlying61 rfl (HS.out.alloc _) (by unfold maxLen; omega) _ rfl rfl (WalkArith.wf_i64 (by omega)) ?_; intro w2 HS2 HG2; replace HS2 := Aside0.mk HS2; replace HG2 := Aside0.mk HG2)
              go_roundw
              case rel =>
                refine ⟨k + 1, by omega, by go_num, ⟨_, _, HS2.out, ?_⟩, ⟨(HB.out.alloc HB.out.size _).grown HG2.out (by simp; have := HB.out.size; omega) (by intro q hq; injection hq with hq; omega)⟩⟩
                rw [← HM.out, okH_eq, H1.out, H2.out, hS.out]
                simp [h1a.out]
              case measure => simp [intOf]; omega
        · rw [hS] at hlk
          have hS := Aside0.mk hS
          go_wp2_with fail
          go_ret
          exact ⟨ret_bool (by rw [← HM.out, hS.out]; simp), HB.out.alloc HB.out.size _⟩
      · go_wp2_with fail
        all_goals go_ret
        all_goals exact ⟨ret_bool (by rw [← HM.out, okH_eq, decide_eq_false h1]; simp), HB.out.alloc HB.out.size _⟩
    · go_wp2_with fail
      go_ret
      obtain ⟨S, c, _, HM⟩ := HS.out
      rw [List.drop_of_length_le (by omega)] at HM
      exact ⟨ret_bool HM, HB.out⟩
end Go.Proofs.Ytjpnbhcoagnpjaa
