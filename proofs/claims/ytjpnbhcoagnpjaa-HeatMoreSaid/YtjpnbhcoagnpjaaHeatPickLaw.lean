/- HeatPicks walked. -/
import Derived.Test.YtjpnbhcoagnpjaaHeatPicks
namespace Go.Proofs.Ytjpnbhcoagnpjaa
open Go.RowKit Go.Proofs.YtjpnbhcoagnpjaaW.PrintWords Go.Proofs.YtjpnbhcoagnpjaaW.PrintLast Go.Proofs.YtjpnbhcoagnpjaaW.PrintMore
open Go.Proofs.Ytjpnbhcoagnpjaa.PHeatPicks
set_option linter.unusedVariables false
set_option linter.unusedSimpArgs false

def fewN (n : Nat) : Nat := if 41 < n then 41 else n
theorem few_quiet (A : Option Addr) (n c : Nat) (hc : n ≤ c) (w : World) :
    Calls Try.prog 10 #[.slice A n c] w fun e w' => e = .returned (.slice A (fewN n) c) ∧ w' = w := by
  by_cases hl : 41 < n
  · have hf : fewN n = 41 := by rw [fewN, if_pos hl]
    rw [hf]
    clear hf
    have h41 : (41 : Int) ≤ (c : Int) := by omega
    go_enter Try.func10, Try.ntmps10
    go_wp2_with fail
    go_ret
    exact ⟨rfl, rfl⟩
  · have hf : fewN n = n := by rw [fewN, if_neg hl]
    rw [hf]
    clear hf
    go_enter Try.func10, Try.ntmps10
    go_wp2_with fail
    go_ret
    exact ⟨rfl, rfl⟩
theorem fewN_len (l : List S35) : fewN l.length = (fewL l).length := by
  unfold fewN fewL
  split
  · rw [List.length_take]; omega
  · rfl
theorem few_C {w : World} {A : Option Addr} {l : List S35} (h : Kd.C k35 w A l.length l) : Kd.C k35 w A (fewL l).length (fewL l) := by
  unfold fewL
  split
  · exact Kd.C_take h (by omega)
  · exact h
theorem pickR_length : ∀ (l : List S35) (m : Int), (pickR l m).length ≤ l.length
  | [], _ => by simp [pickR]
  | x :: r, m => by
    rw [pickR]
    split
    · simp
    · simpa using pickR_length r _
theorem pickL_length (l : List S35) (now age most : Int) : (pickL l now age most).length ≤ l.length := by
  unfold pickL
  split
  · exact Nat.le_trans (pickR_length _ _) (cold_length _ _ _)
  · simp
theorem errN_eq (b : Bool) (w : World) : (decide (errN b = 0)) = b ∧ decide (errN b = 1) = !b := by cases b <;> exact ⟨rfl, rfl⟩
set_option maxHeartbeats 4000000 in
set_option maxRecDepth 100000 in
theorem picks_try (A : Option Addr) (c : Nat) (l : List S35) (now age most : Int) (w : World) (h : Kd.C k35 w A l.length l) (hc : l.length ≤ c) (hmost : most ≤ 9223372036854775807) :
    Calls Try.prog 3 #[.agg #[.slice A l.length c, .int .i64 now, .int .i64 age, .int .i64 most]] w fun e w' => e = .returned (.bool true) ∧ Below w.heap.size w w' := by
  have HF := Aside0.mk (few_C h)
  have HN : (fewL l).length ≤ c := by have := fewN_len l; unfold fewN at this; split at this <;> omega
  have H41 : Aside0 ((fewL l).length ≤ 41) := ⟨fewL_length l⟩
  have HQ : Aside0 (∀ W : World, Calls Try.prog 10 #[.slice A l.length c] W fun e w' => e = .returned (.slice A (fewL l).length c) ∧ w' = W) := ⟨fun W => by rw [← fewN_len]; exact few_quiet A l.length c hc W⟩
  clear h
  generalize fewL l = m at *
  go_enter Try.func3, Try.ntmps3
  go_wp2_with fail
  have hnew := blk_new w (.cells #[.slice A l.length c, .int .i64 now, .int .i64 age, .int .i64 most] 24)
  have HB0 : Aside0 (Below w.heap.size w (w.alloc (.cells #[.slice A l.length c, .int .i64 now, .int .i64 age, .int .i64 most] 24))) := ⟨below_alloc (Below.refl _ _) _⟩
  generalize w.alloc (.cells #[.slice A l.length c, .int .i64 now, .int .i64 age, .int .i64 most] 24) = wa at *
  have q0 : wa.cell? ⟨w.heap.size, 0, none⟩ = some (.slice A l.length c) := blk_cell hnew 0
  have q1 : wa.cell? ⟨w.heap.size, 1, none⟩ = some (.int .i64 now) := blk_cell hnew 1
  have q2 : wa.cell? ⟨w.heap.size, 2, none⟩ = some (.int .i64 age) := blk_cell hnew 2
  have q3 : wa.cell? ⟨w.heap.size, 3, none⟩ = some (.int .i64 most) := blk_cell hnew 3
  clear hnew
  go_quiet ((go_at_call 10; exact Calls.quiet_of_same (HQ.out _)))
  clear HQ q0 q1 q2 q3
  go_wp2_with fail
  refine (pick_calls A c m now age most _ (Kd.C_below HF.out ?_) HN (by have := H41.out; omega) hmost).mono ?_
  · exact pw_below_drewN HB0.out _
  rintro e w1 ⟨v, rfl, hv, hb⟩
  replace hb := below_then (pw_below_drewN HB0.out _) HB0.out.size hb
  have HB := Aside0.mk hb
  have HV := Aside0.mk hv
  clear hb hv
  go_wp2_with fail
  refine (refpick_calls A c m now age most w1 (Kd.C_below HF.out HB.out) HN (by have := H41.out; omega) hmost).mono ?_
  rintro e w2 ⟨v2, rfl, hv2, hb2⟩
  replace HV := Aside0.mk (HV.out.below hb2)
  replace HB := Aside0.mk (below_then HB.out HB.out.size hb2)
  have HV2 := Aside0.mk hv2
  clear hb2 hv2
  have hlen : (pickL m now age most).length ≤ 1000000 := by have := pickL_length m now age most; have := H41.out; omega
  have HL := Aside0.mk hlen
  clear hlen
  generalize pickL m now age most = p at *
  cases pickB m now age most
  · go_wp2_with fail
    refine (same_calls v v2 p p w2 HV.out HV2.out HL.out).mono ?_
    rw [sameR_self]
    rintro e w3 ⟨rfl, hd⟩
    replace HB := Aside0.mk (below_then HB.out HB.out.size hd.below)
    clear hd
    go_wp2_with fail
    refine (awake_calls _).mono ?_
    rintro e w4 ⟨rfl, hb⟩
    replace HB := Aside0.mk (below_then HB.out HB.out.size hb)
    clear hb
    go_wp2_with fail
    go_ret
    exact ⟨rfl, HB.out⟩
  · go_wp2_with fail
    refine (same_calls v v2 p p w2 HV.out HV2.out HL.out).mono ?_
    rw [sameR_self]
    rintro e w3 ⟨rfl, hd⟩
    replace HB := Aside0.mk (below_then HB.out HB.out.size hd.below)
    clear hd
    go_wp2_with fail
    refine (awake_calls _).mono ?_
    rintro e w4 ⟨rfl, hb⟩
    replace HB := Aside0.mk (below_then HB.out HB.out.size hb)
    clear hb
    go_wp2_with fail
    go_ret
    exact ⟨rfl, HB.out⟩
end Go.Proofs.Ytjpnbhcoagnpjaa
