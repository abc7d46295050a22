/- HeatMore walked. -/
import Derived.Test.YtjpnbhcoagnpjaaMorePure
namespace Go.Proofs.Ytjpnbhcoagnpjaa
open Go.RowKit Go.Proofs.YtjpnbhcoagnpjaaW.PrintWords Go.Proofs.YtjpnbhcoagnpjaaW.PrintLast Go.Proofs.YtjpnbhcoagnpjaaW.PrintMore
open Go.Proofs.Ytjpnbhcoagnpjaa.PHeatPicks
set_option linter.unusedVariables false
set_option linter.unusedSimpArgs false

set_option maxHeartbeats 4000000 in
set_option maxRecDepth 100000 in
theorem more_try (A : Option Addr) (c : Nat) (l : List S35) (now age most g y : Int) (w : World) (h : Kd.C k35 w A l.length l) (hc : l.length ≤ c) (hm0 : -9223372036854775808 ≤ most)
    (hg0 : 0 ≤ g) (hg1 : g ≤ 255) (hy0 : 0 ≤ y) (hy1 : y ≤ 255) (ha0 : -9223372036854775808 ≤ age) (ha1 : age ≤ 9223372036854775807) :
    Calls Try.prog 5 #[.agg #[.slice A l.length c, .int .i64 now, .int .i64 age, .int .i64 most], .int .u8 g, .int .u8 y] w fun e w' => e = .returned (.bool true) ∧ Below w.heap.size w w' := by
  have HF := Aside0.mk (few_C h)
  have HN : (fewL l).length ≤ c := by have := fewN_len l; unfold fewN at this; split at this <;> omega
  have H41 : Aside0 ((fewL l).length ≤ 41) := ⟨fewL_length l⟩
  have HQ : Aside0 (∀ W : World, Calls Try.prog 10 #[.slice A l.length c] W fun e w' => e = .returned (.slice A (fewL l).length c) ∧ w' = W) := ⟨fun W => by rw [← fewN_len]; exact few_quiet A l.length c hc W⟩
  clear h
  generalize fewL l = m at *
  go_enter Try.func5, Try.ntmps5
  go_wp2_with fail
  have hnew := blk_new w (.cells #[.slice A l.length c, .int .i64 now, .int .i64 age, .int .i64 most] 24)
  have HB0 : Aside0 (Below w.heap.size w (w.alloc (.cells #[.slice A l.length c, .int .i64 now, .int .i64 age, .int .i64 most] 24))) := ⟨below_alloc (Below.refl _ _) _⟩
  generalize w.alloc (.cells #[.slice A l.length c, .int .i64 now, .int .i64 age, .int .i64 most] 24) = wa at *
  have q0 : wa.cell? ⟨w.heap.size, 0, none⟩ = some (.slice A l.length c) := blk_cell hnew 0
  have q1 : wa.cell? ⟨w.heap.size, 1, none⟩ = some (.int .i64 now) := blk_cell hnew 1
  have q2 : wa.cell? ⟨w.heap.size, 2, none⟩ = some (.int .i64 age) := blk_cell hnew 2
  have q3 : wa.cell? ⟨w.heap.size, 3, none⟩ = some (.int .i64 most) := blk_cell hnew 3
  clear hnew
  go_quiet ((go_at_call 10; exact Calls.quiet_of_same (HQ.out _)))
  clear HQ q0 q1 q2 q3
  replace HB0 := Aside0.mk (pw_below_drewN HB0.out nq)
  generalize wa.drewN nq = wb at *
  go_upto_if 31 with (fail)
  go_cut [10] (fun v10 wc => ∃ mm : Int, v10 = .int .i64 mm ∧ -9223372036854775808 ≤ mm ∧ mm ≤ 1099511627776 ∧ wc = wb)
  case first =>
    by_cases hmo : 1099511627776 < most
    · go_wp2_with fail
      go_meet
      case rel => exact ⟨_, rfl, by omega, by omega, rfl⟩
    · go_wp2_with fail
      go_meet
      case rel => exact ⟨_, rfl, by omega, by omega, rfl⟩
  case rest =>
    obtain ⟨mm, rfl, hmm0, hmm1, rfl⟩ := hcut
    go_wp2_with fail
    refine (pick_calls A c m now age mm _ (Kd.C_below HF.out HB0.out) HN (by have := H41.out; omega) (by omega)).mono ?_
    rintro e w1 ⟨v1, rfl, hv1, hb⟩
    have HB := Aside0.mk (below_then HB0.out HB0.out.size hb)
    have HV1 := Aside0.mk hv1
    clear hb hv1 HB0
    go_wp2_with fail
    refine (pick_calls A c m now age (mm + g) _ (Kd.C_below HF.out HB.out) HN (by have := H41.out; omega) (by omega)).mono ?_
    rintro e w2 ⟨v2, rfl, hv2, hb⟩
    replace HB := Aside0.mk (below_then HB.out HB.out.size hb)
    replace HV1 := Aside0.mk (HV1.out.below hb)
    have HV2 := Aside0.mk hv2
    clear hb hv2
    cases hb1 : pickB m now age mm
    · have hl1 : pickL m now age mm = [] := by rw [pickL, hb1]; rfl
      rw [hl1] at HV1
      clear hl1 hb1
      obtain ⟨A1, c1, rfl, _, _⟩ := HV1.out.out
      cases hb2 : pickB m now age (mm + g)
      · have hl2 : pickL m now age (mm + g) = [] := by rw [pickL, hb2]; rfl
        rw [hl2] at HV2
        clear hl2 hb2
        obtain ⟨A2, c2, rfl, _, _⟩ := HV2.out.out
        go_wp2_with fail
        refine (awake_calls _).mono ?_
        rintro e w4 ⟨rfl, hb⟩
        replace HB := Aside0.mk (below_then HB.out HB.out.size hb)
        clear hb
        go_wp2_with fail
        go_ret
        exact ⟨rfl, HB.out⟩
      · clear hb2
        go_wp2_with fail
        refine (awake_calls _).mono ?_
        rintro e w4 ⟨rfl, hb⟩
        replace HB := Aside0.mk (below_then HB.out HB.out.size hb)
        clear hb
        go_wp2_with fail
        go_ret
        exact ⟨rfl, HB.out⟩
    · have hcb : coldB m now age = true ∧ 0 ≤ mm := by simpa [pickB] using hb1
      obtain ⟨hcb, hmm⟩ := hcb
      have hb2 : pickB m now age (mm + g) = true := by
        rw [pickB, hcb, decide_eq_true (by omega)]
        rfl
      have hage : 0 ≤ age ∧ age ≤ 2147483647 := by
        simp only [coldB, inB, Bool.and_eq_true, decide_eq_true_eq] at hcb
        exact hcb.2
      have hpre : preR (pickL m now age mm) (pickL m now age (mm + g)) := by
        rw [pickL, pickL, if_pos hb1, if_pos hb2]
        exact pick_pre _ _ _ (fun x hx => (cold_bounds hx).1) hmm (by omega)
      rw [hb2]
      clear hb1 hb2
      have hle := preR_length hpre
      have HPre := Aside0.mk (preR_at hpre)
      have HCB := Aside0.mk hcb
      clear hpre hcb
      generalize pickL m now age mm = L1 at *
      generalize pickL m now age (mm + g) = L2 at *
      obtain ⟨A1, c1, rfl, hc1, hr1⟩ := HV1.out.out
      obtain ⟨A2, c2, rfl, hc2, hr2⟩ := HV2.out.out
      have HR1 := Aside0.mk hr1
      have HR2 := Aside0.mk hr2
      clear hr1 hr2 HV1 HV2
      have hlen1 : (L1.length : Int) ≤ 9223372036854775807 := by have := HR1.out.2.1; omega
      go_wp2_with fail
      go_loopw [15] (fun i wr => ∃ k : Nat, i = .int .i64 k ∧ k ≤ L1.length ∧ Drawn0 w2 wr) (fun i _ => L1.length - (intOf i).toNat)
      case atStart => exact ⟨0, rfl, Nat.zero_le _, Drawn0.refl _⟩
      case round =>
        obtain ⟨k, rfl, hk, ⟨nd, rfl⟩⟩ := hrel
        by_cases hlt : k < L1.length
        · obtain ⟨ad, rfl, hx0, hx1, hx2⟩ := at_T35 HR1.out k (by omega) (by omega)
          obtain ⟨ad1, rfl, hy0, hy1, hy2⟩ := at_T35 HR2.out k (by omega) (by omega)
          rw [Int.toNat_natCast] at hx0 hx1 hx2 hy0 hy1 hy2
          have hp := HPre.out k hlt
          generalize rd_T35 L1 k = X at *
          generalize rd_T35 L2 k = Y at *
          obtain ⟨hp0, hp1, hp2, hp3⟩ := hp
          have hd2 : decide (Y.f2 < X.f2) = false := decide_eq_false (by omega)
          have hd0 : (X.f0 != Y.f0) = false := by rw [hp0]; simp
          have hd1 : (X.f1 != Y.f1) = false := by rw [hp1]; simp
          have hltb : ((k : Int) < (L2.length : Int)) := by omega
          have hlta : ((k : Int) < (L1.length : Int)) := by omega
          by_cases hn : k + 1 < L1.length
          · have hXY := hp3 hn
            subst hXY
            have hne := fun W => neq35 W X X
            rw [(eqH_iff X X).2 rfl] at hne
            simp only [Bool.not_true] at hne
            have hs0 : IntKind.i64.wrap ((k : Int) + 1) = (k : Int) + 1 := IntWalk.i64_in _ (by omega)
            have hdn : decide ((k : Int) + 1 < (L1.length : Int)) = true := decide_eq_true (by omega)
            clear hp0 hp1 hp2 hp3
            go_wp2_with fail
            go_quiet (fail)
            go_wp2_with fail
            go_roundw
            case rel => exact ⟨k + 1, by go_num, by omega, ⟨⟨_, rfl⟩⟩⟩
            case measure => simp [intOf]; omega
          · have hs0 : IntKind.i64.wrap ((k : Int) + 1) = (k : Int) + 1 := IntWalk.i64_in _ (by omega)
            have hdn : decide ((k : Int) + 1 < (L1.length : Int)) = false := decide_eq_false (by omega)
            clear hp0 hp1 hp2 hp3
            go_wp2_with fail
            go_quiet (fail)
            go_wp2_with fail
            go_roundw
            case rel => exact ⟨k + 1, by go_num, by omega, ⟨⟨_, rfl⟩⟩⟩
            case measure => simp [intOf]; omega
        · replace HB := Aside0.mk (pw_below_drewN HB.out nd)
          clear HR1 HR2 HPre
          generalize w2.drewN nd = w3 at *
          go_upto_if 155 with (fail)
          go_cut [16] (fun v16 wc => ∃ z : Int, v16 = .int .i64 z ∧ 0 ≤ z ∧ z ≤ age ∧ wc = w3)
          case first =>
            by_cases hz : age - y < 0
            · go_wp2_with fail
              go_meet
              case rel => exact ⟨_, rfl, by omega, by omega, rfl⟩
            · go_wp2_with fail
              go_meet
              case rel => exact ⟨_, rfl, by omega, by omega, rfl⟩
          case rest =>
            obtain ⟨z, rfl, hz0, hz1, rfl⟩ := hcut
            obtain ⟨hcz, hcl, hct⟩ := cold_more HCB.out hz0 hz1
            have HT := Aside0.mk hct
            have HCZ := Aside0.mk hcz
            clear hct hcz
            have hC1 := cold_calls A c m now age wc (Kd.C_below HF.out HB.out) HN (by have := H41.out; omega)
            unfold ColdPost2 at hC1
            rw [HCB.out] at hC1
            have HC1 := Aside0.mk hC1
            clear hC1
            go_wp2_with fail
            refine HC1.out.mono ?_
            rintro e w4 ⟨v4, rfl, hv4, hb⟩
            replace HB := Aside0.mk (below_then HB.out HB.out.size hb)
            have HV4 := Aside0.mk hv4
            clear hb hv4 HC1
            have hC2 := cold_calls A c m now z w4 (Kd.C_below HF.out HB.out) HN (by have := H41.out; omega)
            unfold ColdPost2 at hC2
            rw [HCZ.out] at hC2
            have HC2 := Aside0.mk hC2
            clear hC2
            go_wp2_with fail
            refine HC2.out.mono ?_
            rintro e w5 ⟨v5, rfl, hv5, hb⟩
            replace HB := Aside0.mk (below_then HB.out HB.out.size hb)
            replace HV4 := Aside0.mk (HV4.out.below hb)
            have HV5 := Aside0.mk hv5
            clear hb hv5 HC2
            have hsm : (coldL m now age).length ≤ 1000000 := by have := cold_length m now age; have := H41.out; omega
            have HSM := Aside0.mk hsm
            clear hsm
            generalize coldL m now age = D1 at *
            generalize coldL m now z = D2 at *
            obtain ⟨A4, c4, rfl, hc4, hr4⟩ := HV4.out.out
            obtain ⟨A5, c5, rfl, hc5, hr5⟩ := HV5.out.out
            have HR4 := Aside0.mk hr4
            have HR5 := Aside0.mk hr5
            clear hr4 hr5
            have hsl : (D1.length : Int) ≤ (c5 : Int) := by omega
            go_wp2_with fail
            refine (same_calls _ _ D1 (D2.take D1.length) _ ⟨⟨A4, c4, rfl, hc4, HR4.out⟩⟩ (Rd.take HR5.out hc5 D1.length hcl) HSM.out).mono ?_
            rw [HT.out, sameR_self]
            rintro e w6 ⟨rfl, hd⟩
            replace HB := Aside0.mk (below_then HB.out HB.out.size hd.below)
            clear hd
            go_wp2_with fail
            refine (awake_calls _).mono ?_
            rintro e w7 ⟨rfl, hb⟩
            replace HB := Aside0.mk (below_then HB.out HB.out.size hb)
            clear hb
            go_wp2_with fail
            go_ret
            exact ⟨rfl, HB.out⟩
end Go.Proofs.Ytjpnbhcoagnpjaa
