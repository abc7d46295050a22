-- PRINTED BY print.sh 35421559b90ae4d0a3588c463048766b98c2df88dd9212a6774a882060cdf62d: not written by this session
import Derived.Test.YtjpnbhcoagnpjaaPHeatPicksx0
import Derived.Test.YtjpnbhcoagnpjaaPHeatPicksx2
namespace Go.Proofs.Ytjpnbhcoagnpjaa.PHeatPicks
open Go.RowKit Go.Proofs.YtjpnbhcoagnpjaaW.PrintWords Go.Proofs.YtjpnbhcoagnpjaaW.PrintLast Go.Proofs.YtjpnbhcoagnpjaaW.PrintMore
attribute [local go_sem] max2_int min2_int max_two min_two max_three min_three max_four min_four   -- for this text's walks alone
set_option linter.unusedVariables false
set_option linter.unusedSimpArgs false

/-! ### haymowref17_Cold: function 32 -/
mutual
def haymowref17_Cold.j0 : Nat → List (S35) → Int → Int → Bool → Option ((List (S35)) × Bool)
  | 0, _, _, _, _ => none
  | k + 1, x0, x1, x2, x32 => if x32 = true then (some (([] : List (S35)), false)) else (haymowref17_Cold.l0 k x0 x1 x2 ([] : List (S35)) 0)
def haymowref17_Cold.l0 : Nat → List (S35) → Int → Int → List (S35) → Int → Option ((List (S35)) × Bool)
  | 0, _, _, _, _, _ => none
  | k + 1, x0, x1, x2, x8, x9 => if x9 < (x0.length : Int) then (if 0 ≤ x9 then (if ((rd_T35 x0 x9).f2) < 1 then (haymowref17_Cold.j2 k x0 x1 x2 x8 x9 true ((rd_T35 x0 x9).f0) ((rd_T35 x0 x9).f1) ((rd_T35 x0 x9).f2)) else (haymowref17_Cold.j2 k x0 x1 x2 x8 x9 (decide ((wrap64 (((rd_T35 x0 x9).f1) + x2)) > x1)) ((rd_T35 x0 x9).f0) ((rd_T35 x0 x9).f1) ((rd_T35 x0 x9).f2))) else (none)) else (some (x8, true))
def haymowref17_Cold.j2 : Nat → List (S35) → Int → Int → List (S35) → Int → Bool → Int → Int → Int → Option ((List (S35)) × Bool)
  | 0, _, _, _, _, _, _, _, _, _ => none
  | k + 1, x0, x1, x2, x8, x9, x53, x112000, x112001, x112002 => if x53 = true then (haymowref17_Cold.l0 k x0 x1 x2 x8 (wrap64 (x9 + 1))) else (haymowref17_Cold.l1 k x0 x1 x2 x8 x9 ([] : List (S35)) 0 x112000 x112001 x112002)
def haymowref17_Cold.l1 : Nat → List (S35) → Int → Int → List (S35) → Int → List (S35) → Int → Int → Int → Int → Option ((List (S35)) × Bool)
  | 0, _, _, _, _, _, _, _, _, _, _ => none
  | k + 1, x0, x1, x2, x8, x9, x11, x12, x112000, x112001, x112002 => if x12 < (x8.length : Int) then (if 0 ≤ x12 then ((haymowref17_Ahead.f ((rd_T35 x8 x12).f0) ((rd_T35 x8 x12).f1) ((rd_T35 x8 x12).f2) x112000 x112001 x112002).bind fun t113 => (if t113 = true then (if x11.length < 5864062014805 then (haymowref17_Cold.l1 k x0 x1 x2 x8 x9 (x11 ++ [(⟨(rd_T35 x8 x12).f0, (rd_T35 x8 x12).f1, (rd_T35 x8 x12).f2⟩ : S35)]) (wrap64 (x12 + 1)) x112000 x112001 x112002) else (none)) else (haymowref17_Cold.l1 k x0 x1 x2 x8 x9 x11 (wrap64 (x12 + 1)) x112000 x112001 x112002))) else (none)) else (if x11.length < 5864062014805 then (haymowref17_Cold.l2 k x0 x1 x2 x8 x9 (x11 ++ [(⟨x112000, x112001, x112002⟩ : S35)]) 0 x112000 x112001 x112002) else (none))
def haymowref17_Cold.l2 : Nat → List (S35) → Int → Int → List (S35) → Int → List (S35) → Int → Int → Int → Int → Option ((List (S35)) × Bool)
  | 0, _, _, _, _, _, _, _, _, _, _ => none
  | k + 1, x0, x1, x2, x8, x9, x11, x13, x112000, x112001, x112002 => if x13 < (x8.length : Int) then (if 0 ≤ x13 then ((haymowref17_Ahead.f ((rd_T35 x8 x13).f0) ((rd_T35 x8 x13).f1) ((rd_T35 x8 x13).f2) x112000 x112001 x112002).bind fun t122 => (if t122 = true then (haymowref17_Cold.l2 k x0 x1 x2 x8 x9 x11 (wrap64 (x13 + 1)) x112000 x112001 x112002) else (if x11.length < 5864062014805 then (haymowref17_Cold.l2 k x0 x1 x2 x8 x9 (x11 ++ [(⟨(rd_T35 x8 x13).f0, (rd_T35 x8 x13).f1, (rd_T35 x8 x13).f2⟩ : S35)]) (wrap64 (x13 + 1)) x112000 x112001 x112002) else (none)))) else (none)) else (haymowref17_Cold.l0 k x0 x1 x2 x11 (wrap64 (x9 + 1)))
end
def haymowref17_Cold.f (k : Nat) (l0 : List (S35)) (a1 : Int) (a2 : Int) : Option ((List (S35)) × Bool) := (haymowref17_May.f k l0).bind fun t109 => (if t109 = true then (if a1 < 0 then (haymowref17_Cold.j0 k l0 a1 a2 true) else (if a1 > 2147483647 then (haymowref17_Cold.j0 k l0 a1 a2 true) else (if a2 < 0 then (haymowref17_Cold.j0 k l0 a1 a2 true) else (haymowref17_Cold.j0 k l0 a1 a2 (decide (a2 > 2147483647)))))) else (haymowref17_Cold.j0 k l0 a1 a2 true))
theorem haymowref17_Cold.mono_l : ∀ k, (∀ y0 y1 y2 y3, LeO (haymowref17_Cold.j0 k y0 y1 y2 y3) (haymowref17_Cold.j0 (k + 1) y0 y1 y2 y3)) ∧ (∀ y0 y1 y2 y3 y4, LeO (haymowref17_Cold.l0 k y0 y1 y2 y3 y4) (haymowref17_Cold.l0 (k + 1) y0 y1 y2 y3 y4)) ∧ (∀ y0 y1 y2 y3 y4 y5 y6 y7 y8, LeO (haymowref17_Cold.j2 k y0 y1 y2 y3 y4 y5 y6 y7 y8) (haymowref17_Cold.j2 (k + 1) y0 y1 y2 y3 y4 y5 y6 y7 y8)) ∧ (∀ y0 y1 y2 y3 y4 y5 y6 y7 y8 y9, LeO (haymowref17_Cold.l1 k y0 y1 y2 y3 y4 y5 y6 y7 y8 y9) (haymowref17_Cold.l1 (k + 1) y0 y1 y2 y3 y4 y5 y6 y7 y8 y9)) ∧ (∀ y0 y1 y2 y3 y4 y5 y6 y7 y8 y9, LeO (haymowref17_Cold.l2 k y0 y1 y2 y3 y4 y5 y6 y7 y8 y9) (haymowref17_Cold.l2 (k + 1) y0 y1 y2 y3 y4 y5 y6 y7 y8 y9))
  | 0 => ⟨fun _ _ _ _ r h => by simp [haymowref17_Cold.j0] at h, fun _ _ _ _ _ r h => by simp [haymowref17_Cold.l0] at h, fun _ _ _ _ _ _ _ _ _ r h => by simp [haymowref17_Cold.j2] at h, fun _ _ _ _ _ _ _ _ _ _ r h => by simp [haymowref17_Cold.l1] at h, fun _ _ _ _ _ _ _ _ _ _ r h => by simp [haymowref17_Cold.l2] at h⟩
  | k + 1 => by
    obtain ⟨ih0, ih1, ih2, ih3, ih4⟩ := haymowref17_Cold.mono_l k
    refine ⟨?_, ?_, ?_, ?_, ?_⟩
    · intro y0 y1 y2 y3
      unfold haymowref17_Cold.j0
      repeat' first
      | (with_reducible exact ih0 _ _ _ _)
      | (with_reducible exact ih1 _ _ _ _ _)
      | (with_reducible exact ih2 _ _ _ _ _ _ _ _ _)
      | (with_reducible exact ih3 _ _ _ _ _ _ _ _ _ _)
      | (with_reducible exact ih4 _ _ _ _ _ _ _ _ _ _)
      | (with_reducible exact haymowref17_May.mono _ _)
      | (with_reducible exact LeO.refl _)
      | (with_reducible exact LeO.none _)
      | (with_reducible refine LeO.ite ?_ ?_)
      | (with_reducible refine LeO.bind ?_ (fun _ => ?_))
      | exact ih0 _ _ _ _
      | exact ih1 _ _ _ _ _
      | exact ih2 _ _ _ _ _ _ _ _ _
      | exact ih3 _ _ _ _ _ _ _ _ _ _
      | exact ih4 _ _ _ _ _ _ _ _ _ _
      | exact haymowref17_May.mono _ _
      | exact LeO.none _
      | refine LeO.ite ?_ ?_
      | refine LeO.bind ?_ (fun _ => ?_)
    · intro y0 y1 y2 y3 y4
      unfold haymowref17_Cold.l0
      repeat' first
      | (with_reducible exact ih0 _ _ _ _)
      | (with_reducible exact ih1 _ _ _ _ _)
      | (with_reducible exact ih2 _ _ _ _ _ _ _ _ _)
      | (with_reducible exact ih3 _ _ _ _ _ _ _ _ _ _)
      | (with_reducible exact ih4 _ _ _ _ _ _ _ _ _ _)
      | (with_reducible exact haymowref17_May.mono _ _)
      | (with_reducible exact LeO.refl _)
      | (with_reducible exact LeO.none _)
      | (with_reducible refine LeO.ite ?_ ?_)
      | (with_reducible refine LeO.bind ?_ (fun _ => ?_))
      | exact ih0 _ _ _ _
      | exact ih1 _ _ _ _ _
      | exact ih2 _ _ _ _ _ _ _ _ _
      | exact ih3 _ _ _ _ _ _ _ _ _ _
      | exact ih4 _ _ _ _ _ _ _ _ _ _
      | exact haymowref17_May.mono _ _
      | exact LeO.none _
      | refine LeO.ite ?_ ?_
      | refine LeO.bind ?_ (fun _ => ?_)
    · intro y0 y1 y2 y3 y4 y5 y6 y7 y8
      unfold haymowref17_Cold.j2
      repeat' first
      | (with_reducible exact ih0 _ _ _ _)
      | (with_reducible exact ih1 _ _ _ _ _)
      | (with_reducible exact ih2 _ _ _ _ _ _ _ _ _)
      | (with_reducible exact ih3 _ _ _ _ _ _ _ _ _ _)
      | (with_reducible exact ih4 _ _ _ _ _ _ _ _ _ _)
      | (with_reducible exact haymowref17_May.mono _ _)
      | (with_reducible exact LeO.refl _)
      | (with_reducible exact LeO.none _)
      | (with_reducible refine LeO.ite ?_ ?_)
      | (with_reducible refine LeO.bind ?_ (fun _ => ?_))
      | exact ih0 _ _ _ _
      | exact ih1 _ _ _ _ _
      | exact ih2 _ _ _ _ _ _ _ _ _
      | exact ih3 _ _ _ _ _ _ _ _ _ _
      | exact ih4 _ _ _ _ _ _ _ _ _ _
      | exact haymowref17_May.mono _ _
      | exact LeO.none _
      | refine LeO.ite ?_ ?_
      | refine LeO.bind ?_ (fun _ => ?_)
    · intro y0 y1 y2 y3 y4 y5 y6 y7 y8 y9
      unfold haymowref17_Cold.l1
      repeat' first
      | (with_reducible exact ih0 _ _ _ _)
      | (with_reducible exact ih1 _ _ _ _ _)
      | (with_reducible exact ih2 _ _ _ _ _ _ _ _ _)
      | (with_reducible exact ih3 _ _ _ _ _ _ _ _ _ _)
      | (with_reducible exact ih4 _ _ _ _ _ _ _ _ _ _)
      | (with_reducible exact haymowref17_May.mono _ _)
      | (with_reducible exact LeO.refl _)
      | (with_reducible exact LeO.none _)
      | (with_reducible refine LeO.ite ?_ ?_)
      | (with_reducible refine LeO.bind ?_ (fun _ => ?_))
      | exact ih0 _ _ _ _
      | exact ih1 _ _ _ _ _
      | exact ih2 _ _ _ _ _ _ _ _ _
      | exact ih3 _ _ _ _ _ _ _ _ _ _
      | exact ih4 _ _ _ _ _ _ _ _ _ _
      | exact haymowref17_May.mono _ _
      | exact LeO.none _
      | refine LeO.ite ?_ ?_
      | refine LeO.bind ?_ (fun _ => ?_)
    · intro y0 y1 y2 y3 y4 y5 y6 y7 y8 y9
      unfold haymowref17_Cold.l2
      repeat' first
      | (with_reducible exact ih0 _ _ _ _)
      | (with_reducible exact ih1 _ _ _ _ _)
      | (with_reducible exact ih2 _ _ _ _ _ _ _ _ _)
      | (with_reducible exact ih3 _ _ _ _ _ _ _ _ _ _)
      | (with_reducible exact ih4 _ _ _ _ _ _ _ _ _ _)
      | (with_reducible exact haymowref17_May.mono _ _)
      | (with_reducible exact LeO.refl _)
      | (with_reducible exact LeO.none _)
      | (with_reducible refine LeO.ite ?_ ?_)
      | (with_reducible refine LeO.bind ?_ (fun _ => ?_))
      | exact ih0 _ _ _ _
      | exact ih1 _ _ _ _ _
      | exact ih2 _ _ _ _ _ _ _ _ _
      | exact ih3 _ _ _ _ _ _ _ _ _ _
      | exact ih4 _ _ _ _ _ _ _ _ _ _
      | exact haymowref17_May.mono _ _
      | exact LeO.none _
      | refine LeO.ite ?_ ?_
      | refine LeO.bind ?_ (fun _ => ?_)
theorem haymowref17_Cold.mono : ∀ a0 a1 a2 k, LeO (haymowref17_Cold.f k a0 a1 a2) (haymowref17_Cold.f (k + 1) a0 a1 a2) := by
  intro a0 a1 a2 k
  obtain ⟨ih0, ih1, ih2, ih3, ih4⟩ := haymowref17_Cold.mono_l k
  unfold haymowref17_Cold.f
  repeat' first
      | (with_reducible exact ih0 _ _ _ _)
      | (with_reducible exact ih1 _ _ _ _ _)
      | (with_reducible exact ih2 _ _ _ _ _ _ _ _ _)
      | (with_reducible exact ih3 _ _ _ _ _ _ _ _ _ _)
      | (with_reducible exact ih4 _ _ _ _ _ _ _ _ _ _)
      | (with_reducible exact haymowref17_May.mono _ _)
      | (with_reducible exact LeO.refl _)
      | (with_reducible exact LeO.none _)
      | (with_reducible refine LeO.ite ?_ ?_)
      | (with_reducible refine LeO.bind ?_ (fun _ => ?_))
      | exact ih0 _ _ _ _
      | exact ih1 _ _ _ _ _
      | exact ih2 _ _ _ _ _ _ _ _ _
      | exact ih3 _ _ _ _ _ _ _ _ _ _
      | exact ih4 _ _ _ _ _ _ _ _ _ _
      | exact haymowref17_May.mono _ _
      | exact LeO.none _
      | refine LeO.ite ?_ ?_
      | refine LeO.bind ?_ (fun _ => ?_)
set_option maxHeartbeats 8000000 in
set_option maxRecDepth 100000 in
theorem haymowref17_Cold.calls (k : Nat) (A0 : Option Addr) (c0 : Nat) (l0 : List (S35)) (a1 : Int) (a2 : Int) (r1 : List (S35)) (r2 : Bool) (w : World) (hr0 : Kd.C k35 w A0 l0.length l0) (hc0 : l0.length ≤ c0) (h : haymowref17_Cold.f k l0 a1 a2 = some (r1, r2)) :
    Calls Try.prog 32 #[.slice A0 l0.length c0, .int .i64 a1, .int .i64 a2] w fun e w' => ∃ v0_ : Value, e = .returned (.tuple #[v0_, .bool r2]) ∧ Kd.R k35 35 w' w.heap.size (fun _ => True) v0_ r1 ∧ Below w.heap.size w w' := by
  have hu35 := Try.underlying35
  have HR0 := Aside0.mk hr0
  have HC0 := Aside0.mk hc0
  clear hr0 hc0
  have HB := Aside0.mk (Below.refl w.heap.size w)
  have H : ((haymowref17_May.f k l0).bind fun t109 => (if t109 = true then (if a1 < 0 then (haymowref17_Cold.j0 k l0 a1 a2 true) else (if a1 > 2147483647 then (haymowref17_Cold.j0 k l0 a1 a2 true) else (if a2 < 0 then (haymowref17_Cold.j0 k l0 a1 a2 true) else (haymowref17_Cold.j0 k l0 a1 a2 (decide (a2 > 2147483647)))))) else (haymowref17_Cold.j0 k l0 a1 a2 true))) = some (r1, r2) := h
  clear h
  have HC4 := Aside0.mk H
  clear H
  go_enter Try.func32, Try.ntmps32
  go_upto_region 1 with (fail)
  go_cut [32] (fun v32 wc => ∃ (kq : Nat) (x32_3 : Bool), v32 = .bool x32_3 ∧ Aside0 (haymowref17_Cold.j0 kq l0 a1 a2 x32_3 = some (r1, r2)) ∧ Aside0 (kq ≤ k) ∧ Aside0 (Below w.heap.size w wc))
  case first =>
    have H := HC4.out
    clear HC4
    replace H := Option.bind_eq_some_iff.mp H
    obtain ⟨t109, A50, H⟩ := H
    replace H : (if t109 = true then (if a1 < 0 then (haymowref17_Cold.j0 k l0 a1 a2 true) else (if a1 > 2147483647 then (haymowref17_Cold.j0 k l0 a1 a2 true) else (if a2 < 0 then (haymowref17_Cold.j0 k l0 a1 a2 true) else (haymowref17_Cold.j0 k l0 a1 a2 (decide (a2 > 2147483647)))))) else (haymowref17_Cold.j0 k l0 a1 a2 true)) = some (r1, r2) := H
    have A5 := Aside0.mk A50
    clear A50
    by_cases c6 : t109 = true
    · subst c6
      have H1 : (if a1 < 0 then (haymowref17_Cold.j0 k l0 a1 a2 true) else (if a1 > 2147483647 then (haymowref17_Cold.j0 k l0 a1 a2 true) else (if a2 < 0 then (haymowref17_Cold.j0 k l0 a1 a2 true) else (haymowref17_Cold.j0 k l0 a1 a2 (decide (a2 > 2147483647)))))) = some (r1, r2) := by rw [if_pos rfl] at H; exact H
      clear H
      have H := H1
      clear H1
      by_cases c7 : a1 < 0
      · rw [if_pos c7] at H
        have c7b0 : decide (a1 < 0) = true := decide_eq_true c7
        clear c7
        (first | rw [c7b0] | (simp only [i64_w, i32_w]; rw [c7b0]) | skip)
        have H' := Aside0.mk H
        clear H
        go_wp2_with (first | ((with_reducible refine gate_callee (f := 46) rfl ?_); refine goesL_ (some 15) rfl rfl Try.func46 (by kernel_rfl) rfl #[.slice A0 l0.length c0] rfl (by (try simp only [List.map_toArray, List.map_cons, List.map_nil]); first | done | rfl | (simp only [List.length_drop, List.length_take]; rfl)) ?_; (with_reducible refine (haymowref17_May.calls k _ _ l0 true _ ?side1 ?side2 A5.out).mono ?_); (case side1 => repeat (first | exact (Kd.C_below HR0.out HB.out) | (with_reducible refine Kd.C_alloc ?_ _) | (with_reducible refine Kd.C_drewN ?_ _) | (with_reducible refine Kd.C_drew ?_))); (case side2 => exact HC0.out); rintro e w8 ⟨rfl, hb⟩; refine ⟨_, rfl, ?_⟩; have n0_ := Aside0.mk (below_step (by repeat (first | (with_reducible first | exact HB.out | apply below_alloc | apply pw_below_drewN | apply below_drew1) | exact HB.out)) hb); clear HB; have HB := n0_; clear n0_; (try clear hb); (try clear hb2); (try clear hk); (try clear hi)))
        go_meet
        case rel => exact ⟨_, (true), (by first | rfl | (simp; done) | (simp [*]; done)), H', ⟨by first | omega | exact Nat.le_refl _⟩, ⟨by repeat (first | (with_reducible first | exact HB.out | apply below_alloc | apply pw_below_drewN | apply below_drew1) | exact HB.out)⟩⟩
      · rw [if_neg c7] at H
        have c7b0 : decide (a1 < 0) = false := decide_eq_false c7
        clear c7
        (first | rw [c7b0] | (simp only [i64_w, i32_w]; rw [c7b0]) | skip)
        by_cases c9 : a1 > 2147483647
        · rw [if_pos c9] at H
          have c9b0 : decide (2147483647 < a1) = true := decide_eq_true c9
          clear c9
          have H' := Aside0.mk H
          clear H
          go_wp2_with (first | ((with_reducible refine gate_callee (f := 46) rfl ?_); refine goesL_ (some 15) rfl rfl Try.func46 (by kernel_rfl) rfl #[.slice A0 l0.length c0] rfl (by (try simp only [List.map_toArray, List.map_cons, List.map_nil]); first | done | rfl | (simp only [List.length_drop, List.length_take]; rfl)) ?_; (with_reducible refine (haymowref17_May.calls k _ _ l0 true _ ?side1 ?side2 A5.out).mono ?_); (case side1 => repeat (first | exact (Kd.C_below HR0.out HB.out) | (with_reducible refine Kd.C_alloc ?_ _) | (with_reducible refine Kd.C_drewN ?_ _) | (with_reducible refine Kd.C_drew ?_))); (case side2 => exact HC0.out); rintro e w10 ⟨rfl, hb⟩; refine ⟨_, rfl, ?_⟩; have n0_ := Aside0.mk (below_step (by repeat (first | (with_reducible first | exact HB.out | apply below_alloc | apply pw_below_drewN | apply below_drew1) | exact HB.out)) hb); clear HB; have HB := n0_; clear n0_; (try clear hb); (try clear hb2); (try clear hk); (try clear hi)))
          go_meet
          case rel => exact ⟨_, (true), (by first | rfl | (simp; done) | (simp [*]; done)), H', ⟨by first | omega | exact Nat.le_refl _⟩, ⟨by repeat (first | (with_reducible first | exact HB.out | apply below_alloc | apply pw_below_drewN | apply below_drew1) | exact HB.out)⟩⟩
        · rw [if_neg c9] at H
          have c9b0 : decide (2147483647 < a1) = false := decide_eq_false c9
          clear c9
          by_cases c11 : a2 < 0
          · rw [if_pos c11] at H
            have c11b0 : decide (a2 < 0) = true := decide_eq_true c11
            clear c11
            have H' := Aside0.mk H
            clear H
            go_wp2_with (first | ((with_reducible refine gate_callee (f := 46) rfl ?_); refine goesL_ (some 15) rfl rfl Try.func46 (by kernel_rfl) rfl #[.slice A0 l0.length c0] rfl (by (try simp only [List.map_toArray, List.map_cons, List.map_nil]); first | done | rfl | (simp only [List.length_drop, List.length_take]; rfl)) ?_; (with_reducible refine (haymowref17_May.calls k _ _ l0 true _ ?side1 ?side2 A5.out).mono ?_); (case side1 => repeat (first | exact (Kd.C_below HR0.out HB.out) | (with_reducible refine Kd.C_alloc ?_ _) | (with_reducible refine Kd.C_drewN ?_ _) | (with_reducible refine Kd.C_drew ?_))); (case side2 => exact HC0.out); rintro e w12 ⟨rfl, hb⟩; refine ⟨_, rfl, ?_⟩; have n0_ := Aside0.mk (below_step (by repeat (first | (with_reducible first | exact HB.out | apply below_alloc | apply pw_below_drewN | apply below_drew1) | exact HB.out)) hb); clear HB; have HB := n0_; clear n0_; (try clear hb); (try clear hb2); (try clear hk); (try clear hi)))
            go_meet
            case rel => exact ⟨_, (true), (by first | rfl | (simp; done) | (simp [*]; done)), H', ⟨by first | omega | exact Nat.le_refl _⟩, ⟨by repeat (first | (with_reducible first | exact HB.out | apply below_alloc | apply pw_below_drewN | apply below_drew1) | exact HB.out)⟩⟩
          · rw [if_neg c11] at H
            have c11b0 : decide (a2 < 0) = false := decide_eq_false c11
            clear c11
            have H' := Aside0.mk H
            clear H
            go_wp2_with (first | ((with_reducible refine gate_callee (f := 46) rfl ?_); refine goesL_ (some 15) rfl rfl Try.func46 (by kernel_rfl) rfl #[.slice A0 l0.length c0] rfl (by (try simp only [List.map_toArray, List.map_cons, List.map_nil]); first | done | rfl | (simp only [List.length_drop, List.length_take]; rfl)) ?_; (with_reducible refine (haymowref17_May.calls k _ _ l0 true _ ?side1 ?side2 A5.out).mono ?_); (case side1 => repeat (first | exact (Kd.C_below HR0.out HB.out) | (with_reducible refine Kd.C_alloc ?_ _) | (with_reducible refine Kd.C_drewN ?_ _) | (with_reducible refine Kd.C_drew ?_))); (case side2 => exact HC0.out); rintro e w13 ⟨rfl, hb⟩; refine ⟨_, rfl, ?_⟩; have n0_ := Aside0.mk (below_step (by repeat (first | (with_reducible first | exact HB.out | apply below_alloc | apply pw_below_drewN | apply below_drew1) | exact HB.out)) hb); clear HB; have HB := n0_; clear n0_; (try clear hb); (try clear hb2); (try clear hk); (try clear hi)))
            go_meet
            case rel => exact ⟨_, (decide (a2 > 2147483647)), (by first | rfl | (simp; done) | (simp [*]; done)), H', ⟨by first | omega | exact Nat.le_refl _⟩, ⟨by repeat (first | (with_reducible first | exact HB.out | apply below_alloc | apply pw_below_drewN | apply below_drew1) | exact HB.out)⟩⟩
    · replace c6 := Bool.eq_false_iff.mpr c6
      subst c6
      have H1 : (haymowref17_Cold.j0 k l0 a1 a2 true) = some (r1, r2) := by rw [if_neg (show ¬ (false = true) by decide)] at H; exact H
      clear H
      have H := H1
      clear H1
      have H' := Aside0.mk H
      clear H
      go_wp2_with (first | ((with_reducible refine gate_callee (f := 46) rfl ?_); refine goesL_ (some 15) rfl rfl Try.func46 (by kernel_rfl) rfl #[.slice A0 l0.length c0] rfl (by (try simp only [List.map_toArray, List.map_cons, List.map_nil]); first | done | rfl | (simp only [List.length_drop, List.length_take]; rfl)) ?_; (with_reducible refine (haymowref17_May.calls k _ _ l0 false _ ?side1 ?side2 A5.out).mono ?_); (case side1 => repeat (first | exact (Kd.C_below HR0.out HB.out) | (with_reducible refine Kd.C_alloc ?_ _) | (with_reducible refine Kd.C_drewN ?_ _) | (with_reducible refine Kd.C_drew ?_))); (case side2 => exact HC0.out); rintro e w14 ⟨rfl, hb⟩; refine ⟨_, rfl, ?_⟩; have n0_ := Aside0.mk (below_step (by repeat (first | (with_reducible first | exact HB.out | apply below_alloc | apply pw_below_drewN | apply below_drew1) | exact HB.out)) hb); clear HB; have HB := n0_; clear n0_; (try clear hb); (try clear hb2); (try clear hk); (try clear hi)))
      go_meet
      case rel => exact ⟨_, (true), (by first | rfl | (simp; done) | (simp [*]; done)), H', ⟨by first | omega | exact Nat.le_refl _⟩, ⟨by repeat (first | (with_reducible first | exact HB.out | apply below_alloc | apply pw_below_drewN | apply below_drew1) | exact HB.out)⟩⟩
  case rest =>
    clear HC4
    try clear c1
    try clear p2
    try clear c3
    try clear c4
    try clear c6
    try clear c7
    try clear c7b0
    try clear c9
    try clear c9b0
    try clear c11
    try clear c11b0
    obtain ⟨kq, x32_3, rfl, HA, HJ3, HB⟩ := hcut
    cases kq with
    | zero => exact absurd HA.out (by simp [haymowref17_Cold.j0])
    | succ kj3 =>
      have H := HA.out
      clear HA
      simp only [haymowref17_Cold.j0] at H
      by_cases c15 : x32_3 = true
      · subst c15
        have H1 : (some (([] : List (S35)), false)) = some (r1, r2) := by rw [if_pos rfl] at H; exact H
        clear H
        have H := H1
        clear H1
        simp only [Option.some.injEq, Prod.mk.injEq] at H
        obtain ⟨rfl, rfl⟩ := H
        go_wp2
        go_ret2
        exact ⟨_, by first | rfl | (simp [errW_none, errW_some] <;> rfl) | (simp [*, errW_none, errW_some] <;> rfl), by first | exact Kd.R_nil _ _ _ _ _ | exact Kd.N_nil _ _ _ _ _ | exact Kd.V_nil _ _ _ _ _ | exact Kd.Q_nil _ _ _ _ _ | exact Kd.S_nil _ _ _ _ _, by repeat (first | (with_reducible first | exact HB.out | apply below_alloc | apply pw_below_drewN | apply below_drew1) | exact HB.out)⟩
      · replace c15 := Bool.eq_false_iff.mpr c15
        subst c15
        have H1 : (haymowref17_Cold.l0 kj3 l0 a1 a2 ([] : List (S35)) 0) = some (r1, r2) := by rw [if_neg (show ¬ (false = true) by decide)] at H; exact H
        clear H
        have H := H1
        clear H1
        have H' := Aside0.mk H
        clear H
        go_wp2
        go_loopg [8, 9] kj3 (fun kq v8 v9 w' => ∃ (x8_2 : List (S35)) (x9_2 : Int), v9 = .int .i64 x9_2 ∧ Aside0 (haymowref17_Cold.l0 kq l0 a1 a2 x8_2 x9_2 = some (r1, r2)) ∧ Aside0 (kq ≤ kj3) ∧ Aside0 (Kd.R k35 35 w' w.heap.size (fun _ => True) v8 x8_2) ∧ Aside0 (Below w.heap.size w w'))
        case atStart => exact ⟨(([] : List (S35))), (0), (by first | rfl | (simp; done) | (simp [*]; done)), H', ⟨Nat.le_refl _⟩, ⟨by first | exact Kd.R_nil _ _ _ _ _ | exact Kd.N_nil _ _ _ _ _ | exact Kd.V_nil _ _ _ _ _ | exact Kd.Q_nil _ _ _ _ _ | exact Kd.S_nil _ _ _ _ _⟩, ⟨by repeat (first | (with_reducible first | exact HB.out | apply below_alloc | apply pw_below_drewN | apply below_drew1) | exact HB.out)⟩⟩
        case round =>
          clear H'
          try clear c1
          try clear p2
          try clear c3
          try clear c4
          try clear c6
          try clear c7
          try clear c7b0
          try clear c9
          try clear c9b0
          try clear c11
          try clear c11b0
          try clear c15
          try clear p2
          obtain ⟨x8_2, x9_2, rfl, HA, HK2, HO_8, HB⟩ := hrel
          cases gk with
          | zero => exact absurd HA.out (by simp [haymowref17_Cold.l0])
          | succ k2 =>
            have H := HA.out
            clear HA
            simp only [haymowref17_Cold.l0] at H
            by_cases c16 : x9_2 < (l0.length : Int)
            · rw [if_pos c16] at H
              have c16b0 : decide (x9_2 < (l0.length : Int)) = true := decide_eq_true c16
              clear c16
              by_cases c17 : 0 ≤ x9_2
              · rw [if_pos c17] at H
                have c17b0 : decide (0 ≤ x9_2) = true := decide_eq_true c17
                clear c17
                have HC18 := Aside0.mk H
                clear H
                have p110 : 0 ≤ (x9_2 : Int) := of_decide_eq_true (by first | (with_reducible assumption) | assumption)
                have q110 : x9_2 < (l0.length : Int) := of_decide_eq_true (by first | (with_reducible assumption) | assumption)
                obtain ⟨ad110, e110, hx110_0, hx110_1, hx110_2⟩ := at_T35 HR0.out x9_2 p110 q110
                cases e110
                replace hx110_0 := (HB.out.cell (World.block_lt_of_cell? w _ hx110_0)).trans hx110_0
                replace hx110_1 := (HB.out.cell (World.block_lt_of_cell? w _ hx110_1)).trans hx110_1
                replace hx110_2 := (HB.out.cell (World.block_lt_of_cell? w _ hx110_2)).trans hx110_2
                replace p110 := eq_true p110
                replace q110 := eq_true q110
                go_upto_region 8 with (first | ((with_reducible refine gate_dst (N := 10) rfl ?_); refine box_event ?hg (N := 10) ?hd (cs := #[.int .i64 0, .int .i64 0, .int .i64 0]) (t := 35) ?hr ?_; (case hd => rfl); (case hg => rfl); (case hr => first | (go_simp; done) | (go_simp; rfl)); intro gb111 hg w19 hbox hb; have n0_ := Aside0.mk (Kd.R_below (Kd.R_elderB (by (with_reducible repeat (first | apply Kd.R_alloc | apply Kd.R_drewN | apply Kd.R_drew)); exact HO_8.out) gb111 (Nat.le_of_eq hg.symm)) hb); have n1_ := Aside0.mk (below_step (by repeat (first | (with_reducible first | exact HB.out | apply below_alloc | apply pw_below_drewN | apply below_drew1) | exact HB.out)) hb); have n2_ := Aside0.mk (hbox); have n3_ := Aside0.mk ((by rw [hg]; exact (below_size (by repeat (first | (with_reducible first | exact HB.out | apply below_alloc | apply pw_below_drewN | apply below_drew1) | exact HB.out))) : w.heap.size ≤ gb111)); have n4_ := Aside0.mk ((by rw [hg]; exact (below_size (by repeat (first | (with_reducible first | exact HB.out | apply below_alloc | apply pw_below_drewN | apply below_drew1) | exact HB.out))) : w.heap.size ≤ gb111)); clear HO_8; clear HB; have HO_8 := n0_; have HB := n1_; have BK111 := n2_; have GW111 := n3_; have GE111 := n4_; clear n0_ n1_ n2_ n3_ n4_; clear hb hbox hg; have hcz20_0 : w19.cell? ⟨gb111, 0, none⟩ = some (.int .i64 0) := (blk_cell BK111.out 0).trans rfl; have hcz20_1 : w19.cell? ⟨gb111, 1, none⟩ = some (.int .i64 0) := (blk_cell BK111.out 1).trans rfl; have hcz20_2 : w19.cell? ⟨gb111, 2, none⟩ = some (.int .i64 0) := (blk_cell BK111.out 2).trans rfl; have hfz20_0 := blk_frozen BK111.out 0; have hfz20_1 := blk_frozen BK111.out 1; have hfz20_2 := blk_frozen BK111.out 2))
                (try simp only [Act.put, List.setIfInBounds_toArray, List.set_cons_zero, List.set_cons_succ])
                go_cut [53] (fun v53 wc => ∃ (kq : Nat) (x53_17 : Bool), v53 = .bool x53_17 ∧ Aside0 (haymowref17_Cold.j2 kq l0 a1 a2 x8_2 x9_2 x53_17 ((rd_T35 l0 x9_2).f0) ((rd_T35 l0 x9_2).f1) ((rd_T35 l0 x9_2).f2) = some (r1, r2)) ∧ Aside0 (kq ≤ k2) ∧ Aside0 (Kd.R k35 35 wc w.heap.size (fun k_ => k_ ≠ gb111) u8 x8_2) ∧ Aside0 (wc.heap[gb111]? = some (.cells #[.int .i64 ((rd_T35 l0 x9_2).f0), .int .i64 ((rd_T35 l0 x9_2).f1), .int .i64 ((rd_T35 l0 x9_2).f2)] 35 (0, 0))) ∧ Aside0 (Below w.heap.size w wc))
                case first =>
                  have H := HC18.out
                  clear HC18
                  by_cases c21 : ((rd_T35 l0 x9_2).f2) < 1
                  · rw [if_pos c21] at H
                    have c21b0 : decide (((rd_T35 l0 x9_2).f2) < 1) = true := decide_eq_true c21
                    clear c21
                    (first | rw [c21b0] | (simp only [i64_w, i32_w]; rw [c21b0]) | skip)
                    have H' := Aside0.mk H
                    clear H
                    have hcz22_0 : w19.cell? ⟨gb111, 0, none⟩ = some (.int .i64 0) := (blk_cell BK111.out 0).trans rfl
                    have hcz22_1 : w19.cell? ⟨gb111, 1, none⟩ = some (.int .i64 0) := (blk_cell BK111.out 1).trans rfl
                    have hcz22_2 : w19.cell? ⟨gb111, 2, none⟩ = some (.int .i64 0) := (blk_cell BK111.out 2).trans rfl
                    have hfz22_0 := blk_frozen BK111.out 0
                    have hfz22_1 := blk_frozen BK111.out 1
                    have hfz22_2 := blk_frozen BK111.out 2
                    go_wp2
                    go_meet
                    case rel => exact ⟨_, (true), (by first | rfl | (simp; done) | (simp [*]; done)), H', ⟨by have := HJ3.out; have := HK2.out; first | omega | exact Nat.le_refl _⟩, ⟨by (with_reducible repeat (first | apply Kd.R_alloc | apply Kd.R_drewN | apply Kd.R_drew)); exact Kd.R_mono (Kd.R_far (p := ⟨gb111, 2, none⟩) (Kd.R_far (p := ⟨gb111, 1, none⟩) (Kd.R_far (p := ⟨gb111, 0, none⟩) (Kd.R_mono HO_8.out (fun k_ hk => (⟨hk, hk.2⟩ : _ ∧ k_ ≠ gb111))) (fun _ hk => hk.2) (.int .i64 ((rd_T35 l0 x9_2).f0))) (fun _ hk => hk.2) (.int .i64 ((rd_T35 l0 x9_2).f1))) (fun _ hk => hk.2) (.int .i64 ((rd_T35 l0 x9_2).f2))) (fun _ hk => hk.1.2)⟩, ⟨by (with_reducible repeat (first | refine blk_drewN ?_ _ | refine blk_drew ?_ | refine blk_alloc ?_ _)); refine blk_put (cs := #[.int .i64 ((rd_T35 l0 x9_2).f0), .int .i64 ((rd_T35 l0 x9_2).f1), .int .i64 0]) ?_ 2 _ rfl; (with_reducible repeat (first | refine blk_drewN ?_ _ | refine blk_drew ?_ | refine blk_alloc ?_ _)); refine blk_put (cs := #[.int .i64 ((rd_T35 l0 x9_2).f0), .int .i64 0, .int .i64 0]) ?_ 1 _ rfl; (with_reducible repeat (first | refine blk_drewN ?_ _ | refine blk_drew ?_ | refine blk_alloc ?_ _)); refine blk_put (cs := #[.int .i64 0, .int .i64 0, .int .i64 0]) ?_ 0 _ rfl; (with_reducible repeat (first | refine blk_drewN ?_ _ | refine blk_drew ?_ | refine blk_alloc ?_ _)); exact BK111.out⟩, ⟨by repeat (first | (with_reducible first | exact HB.out | apply below_alloc | apply pw_below_drewN | apply below_drew1 | refine below_set ?_ GE111.out) | exact HB.out)⟩⟩
                  · rw [if_neg c21] at H
                    have c21b0 : decide (((rd_T35 l0 x9_2).f2) < 1) = false := decide_eq_false c21
                    clear c21
                    (first | rw [c21b0] | (simp only [i64_w, i32_w]; rw [c21b0]) | skip)
                    have H' := Aside0.mk H
                    clear H
                    have hcz23_0 : w19.cell? ⟨gb111, 0, none⟩ = some (.int .i64 0) := (blk_cell BK111.out 0).trans rfl
                    have hcz23_1 : w19.cell? ⟨gb111, 1, none⟩ = some (.int .i64 0) := (blk_cell BK111.out 1).trans rfl
                    have hcz23_2 : w19.cell? ⟨gb111, 2, none⟩ = some (.int .i64 0) := (blk_cell BK111.out 2).trans rfl
                    have hfz23_0 := blk_frozen BK111.out 0
                    have hfz23_1 := blk_frozen BK111.out 1
                    have hfz23_2 := blk_frozen BK111.out 2
                    go_wp2
                    go_meet
                    case rel => exact ⟨_, (decide ((wrap64 (((rd_T35 l0 x9_2).f1) + a2)) > a1)), (by first | rfl | (simp; done) | (simp [*]; done)), H', ⟨by have := HJ3.out; have := HK2.out; first | omega | exact Nat.le_refl _⟩, ⟨by (with_reducible repeat (first | apply Kd.R_alloc | apply Kd.R_drewN | apply Kd.R_drew)); exact Kd.R_mono (Kd.R_far (p := ⟨gb111, 2, none⟩) (Kd.R_far (p := ⟨gb111, 1, none⟩) (Kd.R_far (p := ⟨gb111, 0, none⟩) (Kd.R_mono HO_8.out (fun k_ hk => (⟨hk, hk.2⟩ : _ ∧ k_ ≠ gb111))) (fun _ hk => hk.2) (.int .i64 ((rd_T35 l0 x9_2).f0))) (fun _ hk => hk.2) (.int .i64 ((rd_T35 l0 x9_2).f1))) (fun _ hk => hk.2) (.int .i64 ((rd_T35 l0 x9_2).f2))) (fun _ hk => hk.1.2)⟩, ⟨by (with_reducible repeat (first | refine blk_drewN ?_ _ | refine blk_drew ?_ | refine blk_alloc ?_ _)); refine blk_put (cs := #[.int .i64 ((rd_T35 l0 x9_2).f0), .int .i64 ((rd_T35 l0 x9_2).f1), .int .i64 0]) ?_ 2 _ rfl; (with_reducible repeat (first | refine blk_drewN ?_ _ | refine blk_drew ?_ | refine blk_alloc ?_ _)); refine blk_put (cs := #[.int .i64 ((rd_T35 l0 x9_2).f0), .int .i64 0, .int .i64 0]) ?_ 1 _ rfl; (with_reducible repeat (first | refine blk_drewN ?_ _ | refine blk_drew ?_ | refine blk_alloc ?_ _)); refine blk_put (cs := #[.int .i64 0, .int .i64 0, .int .i64 0]) ?_ 0 _ rfl; (with_reducible repeat (first | refine blk_drewN ?_ _ | refine blk_drew ?_ | refine blk_alloc ?_ _)); exact BK111.out⟩, ⟨by repeat (first | (with_reducible first | exact HB.out | apply below_alloc | apply pw_below_drewN | apply below_drew1 | refine below_set ?_ GE111.out) | exact HB.out)⟩⟩
                case rest =>
                  clear HC18
                  try clear c1
                  try clear p1
                  try clear q1
                  try clear hx1
                  try clear c2
                  try clear p2
                  try clear c3
                  try clear c4
                  try clear c6
                  try clear p6
                  try clear c7
                  try clear c7b0
                  try clear c9
                  try clear c9b0
                  try clear c11
                  try clear c11b0
                  try clear p11
                  try clear q11
                  try clear hx11
                  try clear c15
                  try clear c16
                  try clear c16b0
                  try clear c17
                  try clear c17b0
                  try clear c21
                  try clear c21b0
                  try clear hcz20_0
                  try clear hcz20_1
                  try clear hcz20_2
                  try clear hcz22_0
                  try clear hcz22_1
                  try clear hcz22_2
                  try clear hcz23_0
                  try clear hcz23_1
                  try clear hcz23_2
                  try clear hfz20_0
                  try clear hfz20_1
                  try clear hfz20_2
                  try clear hfz22_0
                  try clear hfz22_1
                  try clear hfz22_2
                  try clear hfz23_0
                  try clear hfz23_1
                  try clear hfz23_2
                  try clear hx110_0
                  try clear hx110_1
                  try clear hx110_2
                  try clear p110
                  try clear p2
                  try clear q110
                  obtain ⟨kq, x53_17, rfl, HA, HJ17, HO_8, BK111, HB⟩ := hcut
                  cases kq with
                  | zero => exact absurd HA.out (by simp [haymowref17_Cold.j2])
                  | succ kj17 =>
                    have H := HA.out
                    clear HA
                    simp only [haymowref17_Cold.j2] at H
                    by_cases c24 : x53_17 = true
                    · subst c24
                      have H1 : (haymowref17_Cold.l0 kj17 l0 a1 a2 x8_2 (wrap64 (x9_2 + 1))) = some (r1, r2) := by rw [if_pos rfl] at H; exact H
                      clear H
                      have H := H1
                      clear H1
                      have H' := Aside0.mk H
                      clear H
                      go_wp2
                      go_roundg kj17
                      case measure => have := HJ3.out; have := HK2.out; have := HJ17.out; omega
                      case rel => exact ⟨(x8_2), (wrap64 (x9_2 + 1)), (by first | rfl | (simp; done) | (simp [*]; done)), H', ⟨by have := HJ3.out; have := HK2.out; have := HJ17.out; omega⟩, ⟨by (with_reducible repeat (first | apply Kd.R_alloc | apply Kd.R_drewN | apply Kd.R_drew)); exact Kd.R_mono HO_8.out (fun _ hk => trivial)⟩, ⟨by repeat (first | (with_reducible first | exact HB.out | apply below_alloc | apply pw_below_drewN | apply below_drew1 | refine below_set ?_ GE111.out) | exact HB.out)⟩⟩
                    · replace c24 := Bool.eq_false_iff.mpr c24
                      subst c24
                      have H1 : (haymowref17_Cold.l1 kj17 l0 a1 a2 x8_2 x9_2 ([] : List (S35)) 0 ((rd_T35 l0 x9_2).f0) ((rd_T35 l0 x9_2).f1) ((rd_T35 l0 x9_2).f2)) = some (r1, r2) := by rw [if_neg (show ¬ (false = true) by decide)] at H; exact H
                      clear H
                      have H := H1
                      clear H1
                      have H' := Aside0.mk H
                      clear H
                      go_wp2
                      go_loopg [11, 12] kj17 (fun kq v11 v12 w' => ∃ (x11_4 : List (S35)) (x12_4 : Int), v12 = .int .i64 x12_4 ∧ Aside0 (haymowref17_Cold.l1 kq l0 a1 a2 x8_2 x9_2 x11_4 x12_4 ((rd_T35 l0 x9_2).f0) ((rd_T35 l0 x9_2).f1) ((rd_T35 l0 x9_2).f2) = some (r1, r2)) ∧ Aside0 (kq ≤ kj17) ∧ Aside0 (Kd.R k35 35 w' w.heap.size (fun k_ => some k_ ≠ (v11 : Value).ownBlock ∧ k_ ≠ gb111) u8 x8_2) ∧ Aside0 (Kd.R k35 35 w' w.heap.size (fun k_ => some k_ ≠ (u8 : Value).ownBlock ∧ k_ ≠ gb111) v11 x11_4) ∧ Aside0 (w'.heap[gb111]? = some (.cells #[.int .i64 ((rd_T35 l0 x9_2).f0), .int .i64 ((rd_T35 l0 x9_2).f1), .int .i64 ((rd_T35 l0 x9_2).f2)] 35 (0, 0))) ∧ Aside0 (Below w.heap.size w w'))
                      case atStart => exact ⟨(([] : List (S35))), (0), (by first | rfl | (simp; done) | (simp [*]; done)), H', ⟨Nat.le_refl _⟩, ⟨by (with_reducible repeat (first | apply Kd.R_alloc | apply Kd.R_drewN | apply Kd.R_drew)); exact Kd.R_mono HO_8.out (fun _ hk => ⟨(by simp [Value.ownBlock]), hk⟩)⟩, ⟨by first | exact Kd.R_nil _ _ _ _ _ | exact Kd.N_nil _ _ _ _ _ | exact Kd.V_nil _ _ _ _ _ | exact Kd.Q_nil _ _ _ _ _ | exact Kd.S_nil _ _ _ _ _⟩, ⟨by (with_reducible repeat (first | refine blk_drewN ?_ _ | refine blk_drew ?_ | refine blk_alloc ?_ _)); exact BK111.out⟩, ⟨by repeat (first | (with_reducible first | exact HB.out | apply below_alloc | apply pw_below_drewN | apply below_drew1 | refine below_set ?_ GE111.out) | exact HB.out)⟩⟩
                      case round =>
                        clear H'
                        try clear c1
                        try clear p1
                        try clear q1
                        try clear hx1
                        try clear c2
                        try clear p2
                        try clear c3
                        try clear c4
                        try clear c6
                        try clear p6
                        try clear c7
                        try clear c7b0
                        try clear c9
                        try clear c9b0
                        try clear c11
                        try clear c11b0
                        try clear p11
                        try clear q11
                        try clear hx11
                        try clear c15
                        try clear c16
                        try clear c16b0
                        try clear c17
                        try clear c17b0
                        try clear c21
                        try clear c21b0
                        try clear c24
                        try clear hcz20_0
                        try clear hcz20_1
                        try clear hcz20_2
                        try clear hcz22_0
                        try clear hcz22_1
                        try clear hcz22_2
                        try clear hcz23_0
                        try clear hcz23_1
                        try clear hcz23_2
                        try clear hfz20_0
                        try clear hfz20_1
                        try clear hfz20_2
                        try clear hfz22_0
                        try clear hfz22_1
                        try clear hfz22_2
                        try clear hfz23_0
                        try clear hfz23_1
                        try clear hfz23_2
                        try clear hx110_0
                        try clear hx110_1
                        try clear hx110_2
                        try clear p1
                        try clear p11
                        try clear p110
                        try clear p2
                        try clear p6
                        try clear q1
                        try clear q11
                        try clear q110
                        obtain ⟨x11_4, x12_4, rfl, HA, HK4, HO_8, HO_11, BK111, HB⟩ := hrel
                        cases gk with
                        | zero => exact absurd HA.out (by simp [haymowref17_Cold.l1])
                        | succ k4 =>
                          have H := HA.out
                          clear HA
                          simp only [haymowref17_Cold.l1] at H
                          by_cases c25 : x12_4 < (x8_2.length : Int)
                          · rw [if_pos c25] at H
                            have c25b0 : decide (x12_4 < (x8_2.length : Int)) = true := decide_eq_true c25
                            clear c25
                            by_cases c26 : 0 ≤ x12_4
                            · rw [if_pos c26] at H
                              have c26b0 : decide (0 ≤ x12_4) = true := decide_eq_true c26
                              clear c26
                              replace H := Option.bind_eq_some_iff.mp H
                              obtain ⟨t113, A270, H⟩ := H
                              replace H : (if t113 = true then (if x11_4.length < 5864062014805 then (haymowref17_Cold.l1 k4 l0 a1 a2 x8_2 x9_2 (x11_4 ++ [(⟨(rd_T35 x8_2 x12_4).f0, (rd_T35 x8_2 x12_4).f1, (rd_T35 x8_2 x12_4).f2⟩ : S35)]) (wrap64 (x12_4 + 1)) ((rd_T35 l0 x9_2).f0) ((rd_T35 l0 x9_2).f1) ((rd_T35 l0 x9_2).f2)) else (none)) else (haymowref17_Cold.l1 k4 l0 a1 a2 x8_2 x9_2 x11_4 (wrap64 (x12_4 + 1)) ((rd_T35 l0 x9_2).f0) ((rd_T35 l0 x9_2).f1) ((rd_T35 l0 x9_2).f2))) = some (r1, r2) := H
                              have A27 := Aside0.mk A270
                              clear A270
                              by_cases c28 : t113 = true
                              · subst c28
                                have H1 : (if x11_4.length < 5864062014805 then (haymowref17_Cold.l1 k4 l0 a1 a2 x8_2 x9_2 (x11_4 ++ [(⟨(rd_T35 x8_2 x12_4).f0, (rd_T35 x8_2 x12_4).f1, (rd_T35 x8_2 x12_4).f2⟩ : S35)]) (wrap64 (x12_4 + 1)) ((rd_T35 l0 x9_2).f0) ((rd_T35 l0 x9_2).f1) ((rd_T35 l0 x9_2).f2)) else (none)) = some (r1, r2) := by rw [if_pos rfl] at H; exact H
                                clear H
                                have H := H1
                                clear H1
                                by_cases c29 : x11_4.length < 5864062014805
                                · rw [if_pos c29] at H
                                  have LMc29 := Aside0.mk c29
                                  clear c29
                                  obtain ⟨y115, hy115⟩ : ∃ y_ : List (S35), y_ = (x11_4 ++ [(⟨(rd_T35 x8_2 x12_4).f0, (rd_T35 x8_2 x12_4).f1, (rd_T35 x8_2 x12_4).f2⟩ : S35)]) := ⟨_, rfl⟩
                                  replace H : (haymowref17_Cold.l1 k4 l0 a1 a2 x8_2 x9_2 y115 (wrap64 (x12_4 + 1)) ((rd_T35 l0 x9_2).f0) ((rd_T35 l0 x9_2).f1) ((rd_T35 l0 x9_2).f2)) = some (r1, r2) := by first | (rw [hy115]; with_reducible exact H) | (have H2_ := (Option.bind_some _ _).symm.trans H; rw [hy115]; with_reducible exact H2_) | (have H2_ := (Option.bind_some _ _).symm.trans H; with_reducible exact H2_) | with_reducible exact H | (rw [hy115]; exact H) | exact H
                                  have Ny115 := Aside0.mk hy115
                                  clear hy115
                                  have H' := Aside0.mk H
                                  clear H
                                  obtain ⟨Ao30, co30, eo30⟩ := Kd.R_slice HO_8.out
                                  subst eo30
                                  try go_wp2
                                  have n0_ := Aside0.mk (Kd.R_drew HO_8.out)
                                  have n1_ := Aside0.mk (Kd.R_drew HO_11.out)
                                  have n2_ := Aside0.mk (blk_drew BK111.out)
                                  have n3_ := Aside0.mk (below_drew1 HB.out)
                                  clear HO_8
                                  clear HO_11
                                  clear BK111
                                  clear HB
                                  have HO_8 := n0_
                                  have HO_11 := n1_
                                  have BK111 := n2_
                                  have HB := n3_
                                  clear n0_ n1_ n2_ n3_
                                  have p112 : 0 ≤ (x12_4 : Int) := of_decide_eq_true (by first | (with_reducible assumption) | assumption)
                                  have q112 : x12_4 < (x8_2.length : Int) := of_decide_eq_true (by first | (with_reducible assumption) | assumption)
                                  obtain ⟨ad112, e112, hx112_0, hx112_1, hx112_2⟩ := at_T35 (Kd.R_reads' HO_8.out).2.2 x12_4 p112 q112
                                  cases e112
                                  replace p112 := eq_true p112
                                  replace q112 := eq_true q112
                                  refine start_ (n := 6) (S := fun w' => w'.cell? ⟨gb111, 0, none⟩ = some (.int .i64 ((rd_T35 l0 x9_2).f0)) ∧ w'.cell? ⟨gb111, 1, none⟩ = some (.int .i64 ((rd_T35 l0 x9_2).f1)) ∧ w'.cell? ⟨gb111, 2, none⟩ = some (.int .i64 ((rd_T35 l0 x9_2).f2)) ∧ w'.cell? (ad112.add ((x12_4).toNat * 3)) = some (.int .i64 ((rd_T35 x8_2 x12_4).f0)) ∧ w'.cell? ⟨(ad112.add ((x12_4).toNat * 3)).block, (ad112.add ((x12_4).toNat * 3)).off + 1, none⟩ = some (.int .i64 ((rd_T35 x8_2 x12_4).f1)) ∧ w'.cell? ⟨(ad112.add ((x12_4).toNat * 3)).block, (ad112.add ((x12_4).toNat * 3)).off + 2, none⟩ = some (.int .i64 ((rd_T35 x8_2 x12_4).f2))) (ds := []) #[false, false, false, false, false, false] (by kernel_rfl) rfl rfl ⟨(blk_cell BK111.out 0).trans rfl, (blk_cell BK111.out 1).trans rfl, (blk_cell BK111.out 2).trans rfl, hx112_0, hx112_1, hx112_2⟩ (fun hHeld => ?_)
                                  generalize wr.drew = w31 at HO_8 HO_11 BK111 HB hx112_0 hx112_1 hx112_2 hHeld ⊢
                                  refine pure_ (i := 0) (N := some 60) (v := ?_) (a' := ?_) #[true, false, false, false, false, false] rfl rfl (by kernel_rfl) (fun _ _ _ h => h) (Or.inl ⟨by rfl, ?_⟩) ?_ ?_
                                  rotate_left
                                  · intro w'
                                    go_simp
                                    with_reducible rfl
                                  rotate_left
                                  · simp only [Act.put, List.setIfInBounds_toArray, List.set_cons_zero, List.set_cons_succ, i64_w, i32_w]
                                    rfl
                                  refine pure_ (i := 1) (N := some 61) (v := ?_) (a' := ?_) #[true, true, false, false, false, false] rfl rfl (by kernel_rfl) (fun _ _ _ h => h) (Or.inl ⟨by rfl, ?_⟩) ?_ ?_
                                  rotate_left
                                  · intro w'
                                    go_simp
                                    with_reducible rfl
                                  rotate_left
                                  · simp only [Act.put, List.setIfInBounds_toArray, List.set_cons_zero, List.set_cons_succ, i64_w, i32_w]
                                    rfl
                                  refine pure_ (i := 2) (N := some 62) (v := ?_) (a' := ?_) #[true, true, true, false, false, false] rfl rfl (by kernel_rfl) (fun _ _ _ h => h) (Or.inl ⟨by rfl, ?_⟩) ?_ ?_
                                  rotate_left
                                  · intro w'
                                    go_simp
                                    with_reducible rfl
                                  rotate_left
                                  · simp only [Act.put, List.setIfInBounds_toArray, List.set_cons_zero, List.set_cons_succ, i64_w, i32_w]
                                    rfl
                                  refine take_ (i := 3) (N := some 63) (v := ?_) (a' := ?_) #[true, true, true, true, false, false] rfl rfl (by kernel_rfl) (fun _ _ _ h => h) (Or.inl ⟨by rfl, ?_⟩) hHeld ?_ ?_
                                  rotate_left
                                  · rintro w' ⟨s0, s1, s2, s3, s4, s5⟩
                                    go_simp
                                    with_reducible rfl
                                  rotate_left
                                  · simp only [Act.put, List.setIfInBounds_toArray, List.set_cons_zero, List.set_cons_succ, i64_w, i32_w]
                                    rfl
                                  refine take_ (i := 4) (N := some 64) (v := ?_) (a' := ?_) #[true, true, true, true, true, false] rfl rfl (by kernel_rfl) (fun _ _ _ h => h) (Or.inl ⟨by rfl, ?_⟩) hHeld ?_ ?_
                                  rotate_left
                                  · rintro w' ⟨s0, s1, s2, s3, s4, s5⟩
                                    go_simp
                                    with_reducible rfl
                                  rotate_left
                                  · simp only [Act.put, List.setIfInBounds_toArray, List.set_cons_zero, List.set_cons_succ, i64_w, i32_w]
                                    rfl
                                  refine one_ (i := 5) (N := some 65) #[true, true, true, true, true, true] rfl rfl (by kernel_rfl) (by decide) (fun K hK => ?_)
                                  refine goes_ Try.func16 (by kernel_rfl) rfl #[.agg #[.int .i64 ((rd_T35 x8_2 x12_4).f0), .int .i64 ((rd_T35 x8_2 x12_4).f1), .int .i64 ((rd_T35 x8_2 x12_4).f2)], .agg #[.int .i64 ((rd_T35 l0 x9_2).f0), .int .i64 ((rd_T35 l0 x9_2).f1), .int .i64 ((rd_T35 l0 x9_2).f2)]] (by rfl) rfl rfl (by (try simp only [List.map_toArray, List.map_cons, List.map_nil]); first | done | rfl | (simp only [List.length_drop, List.length_take]; rfl)) ?_
                                  with_reducible refine (haymowref17_Ahead.calls ((rd_T35 x8_2 x12_4).f0) ((rd_T35 x8_2 x12_4).f1) ((rd_T35 x8_2 x12_4).f2) ((rd_T35 l0 x9_2).f0) ((rd_T35 l0 x9_2).f1) ((rd_T35 l0 x9_2).f2) true _ A27.out).mono ?_
                                  rintro e w32 ⟨rfl, hb⟩
                                  have HS3_ := (hb.cell (World.block_lt_of_cell? _ _ (hHeld.2.2.2.1))).trans (hHeld.2.2.2.1)
                                  have HS4_ := (hb.cell (World.block_lt_of_cell? _ _ (hHeld.2.2.2.2.1))).trans (hHeld.2.2.2.2.1)
                                  have HS5_ := (hb.cell (World.block_lt_of_cell? _ _ (hHeld.2.2.2.2.2))).trans (hHeld.2.2.2.2.2)
                                  refine ⟨_, rfl, ?_⟩
                                  have n0_ := Aside0.mk (Kd.R_below (by (with_reducible repeat (first | apply Kd.R_alloc | apply Kd.R_drewN | apply Kd.R_drew)); exact HO_8.out) hb)
                                  have n1_ := Aside0.mk (Kd.R_below (by (with_reducible repeat (first | apply Kd.R_alloc | apply Kd.R_drewN | apply Kd.R_drew)); exact HO_11.out) hb)
                                  have n2_ := Aside0.mk (blk_below (g := gb111) (o := .cells #[.int .i64 ((rd_T35 l0 x9_2).f0), .int .i64 ((rd_T35 l0 x9_2).f1), .int .i64 ((rd_T35 l0 x9_2).f2)] 35 (0, 0)) (by (with_reducible repeat (first | refine blk_drewN ?_ _ | refine blk_drew ?_ | refine blk_alloc ?_ _)); exact BK111.out) hb)
                                  have n3_ := Aside0.mk (below_step (by repeat (first | (with_reducible first | exact HB.out | apply below_alloc | apply pw_below_drewN | apply below_drew1 | refine below_set ?_ GE111.out) | exact HB.out)) hb)
                                  clear HO_8
                                  clear HO_11
                                  clear BK111
                                  clear HB
                                  have HO_8 := n0_
                                  have HO_11 := n1_
                                  have BK111 := n2_
                                  have HB := n3_
                                  clear n0_ n1_ n2_ n3_
                                  (try clear hb)
                                  (try clear hb2)
                                  (try clear hk)
                                  (try clear hi)
                                  refine hK.out _ _ ⟨(blk_cell BK111.out 0).trans rfl, (blk_cell BK111.out 1).trans rfl, (blk_cell BK111.out 2).trans rfl, HS3_, HS4_, HS5_⟩ (fun hHeld => ?_)
                                  clear hK K
                                  refine norm_ (a' := ?_) ?_ ?_
                                  rotate_left
                                  · show Act.put _ (some 65) _ = _
                                    simp only [Act.put, List.setIfInBounds_toArray, List.set_cons_zero, List.set_cons_succ, i64_w, i32_w]
                                    rfl
                                  refine done_ (by kernel_rfl) ?_
                                  have p114 : 0 ≤ (x12_4 : Int) := of_decide_eq_true (by first | (with_reducible assumption) | assumption)
                                  have q114 : x12_4 < (x8_2.length : Int) := of_decide_eq_true (by first | (with_reducible assumption) | assumption)
                                  obtain ⟨ad114, e114, hx114_0, hx114_1, hx114_2⟩ := at_T35 (Kd.R_reads' HO_8.out).2.2 x12_4 p114 q114
                                  obtain rfl : ad112 = ad114 := (by injection e114)
                                  replace p114 := eq_true p114
                                  replace q114 := eq_true q114
                                  try go_wp2_with (first | ((with_reducible refine gate_builtin (b := .append) (xs := #[.tmp 66, .tmp 71]) rfl ?_); at_builtin; refine Kd.R_append k35 (w0 := w) w.heap.size rfl (.tmp 66) (.tmp 71) 22 35 (.agg #[(.int .i64 0), (.int .i64 0), (.int .i64 0)]) 24 rfl Try.underlying22 info35 rfl (by decide) (by omega) u11 x11_4 (⟨(rd_T35 x8_2 x12_4).f0, (rd_T35 x8_2 x12_4).f1, (rd_T35 x8_2 x12_4).f2⟩ : S35) [.int .i64 ((rd_T35 x8_2 x12_4).f0), .int .i64 ((rd_T35 x8_2 x12_4).f1), .int .i64 ((rd_T35 x8_2 x12_4).f2)] (fun k_ => some k_ ≠ (.slice (some ad112) x8_2.length co30 : Value).ownBlock ∧ k_ ≠ gb111) (fun _ => False) rfl rfl ?aP (fun _ hk => hk.elim) ?aF ?aO ?aB ?aS ?aL ?_; (case aP => exact k35_mkM _ _ _ (⟨(rd_T35 x8_2 x12_4).f0, (rd_T35 x8_2 x12_4).f1, (rd_T35 x8_2 x12_4).f2⟩ : S35)); (case aB => exact (by repeat (first | (with_reducible first | exact HB.out | apply below_alloc | apply pw_below_drewN | apply below_drew1 | refine below_set ?_ GE111.out) | exact HB.out))); (case aF => exact (fun k_ hk => ⟨Kd.fresh' (Kd.R_lt (by (with_reducible repeat (first | apply Kd.R_alloc | apply Kd.R_drewN | apply Kd.R_drew)); exact HO_8.out)) k_ hk, Kd.freshB (g := gb111) (o := .cells #[.int .i64 ((rd_T35 l0 x9_2).f0), .int .i64 ((rd_T35 l0 x9_2).f1), .int .i64 ((rd_T35 l0 x9_2).f2)] 35 (0, 0)) (by (with_reducible repeat (first | refine blk_drewN ?_ _ | refine blk_drew ?_ | refine blk_alloc ?_ _)); exact BK111.out) k_ hk⟩)); (case aO => exact (by (with_reducible repeat (first | apply Kd.R_alloc | apply Kd.R_drewN | apply Kd.R_drew)); exact HO_11.out)); (case aS => exact (below_size (by repeat (first | (with_reducible first | exact HB.out | apply below_alloc | apply pw_below_drewN | apply below_drew1 | refine below_set ?_ GE111.out) | exact HB.out)))); (case aL => have := LMc29.out; omega); intro v116 w33 ho hb hg hat; rw [← Ny115.out] at ho; have n0_ := Aside0.mk (Kd.R_after (ok := (fun k_ => k_ ≠ gb111)) (by (with_reducible repeat (first | apply Kd.R_alloc | apply Kd.R_drewN | apply Kd.R_drew)); exact Kd.R_mono HO_8.out (fun _ hk => ⟨hk.2, hk.1⟩)) hg hat); have n1_ := Aside0.mk (blk_grown (g := gb111) (o := .cells #[.int .i64 ((rd_T35 l0 x9_2).f0), .int .i64 ((rd_T35 l0 x9_2).f1), .int .i64 ((rd_T35 l0 x9_2).f2)] 35 (0, 0)) (by (with_reducible repeat (first | refine blk_drewN ?_ _ | refine blk_drew ?_ | refine blk_alloc ?_ _)); exact BK111.out) hg (Kd.R_away HO_11.out (fun _ hk => hk.2))); have n2_ := Aside0.mk (hb); have n3_ := Aside0.mk (ho); clear HO_8; clear BK111; clear HB; clear HO_11; have HO_8 := n0_; have BK111 := n1_; have HB := n2_; have HO117 := n3_; clear n0_ n1_ n2_ n3_; clear ho hb hg hat))
                                  go_roundg k4
                                  case measure => have := HJ3.out; have := HK2.out; have := HJ17.out; have := HK4.out; omega
                                  case rel => exact ⟨(y115), (wrap64 (x12_4 + 1)), (by first | rfl | (simp; done) | (simp [*]; done)), H', ⟨by have := HJ3.out; have := HK2.out; have := HJ17.out; have := HK4.out; omega⟩, ⟨by (with_reducible repeat (first | apply Kd.R_alloc | apply Kd.R_drewN | apply Kd.R_drew)); exact Kd.R_mono HO_8.out (fun _ hk => ⟨hk.2, hk.1⟩)⟩, ⟨by (with_reducible repeat (first | apply Kd.R_alloc | apply Kd.R_drewN | apply Kd.R_drew)); exact HO117.out⟩, ⟨by (with_reducible repeat (first | refine blk_drewN ?_ _ | refine blk_drew ?_ | refine blk_alloc ?_ _)); exact BK111.out⟩, ⟨by repeat (first | (with_reducible first | exact HB.out | apply below_alloc | apply pw_below_drewN | apply below_drew1 | refine below_set ?_ GE111.out) | exact HB.out)⟩⟩
                                · rw [if_neg c29] at H
                                  exact absurd H (by simp)
                              · replace c28 := Bool.eq_false_iff.mpr c28
                                subst c28
                                have H1 : (haymowref17_Cold.l1 k4 l0 a1 a2 x8_2 x9_2 x11_4 (wrap64 (x12_4 + 1)) ((rd_T35 l0 x9_2).f0) ((rd_T35 l0 x9_2).f1) ((rd_T35 l0 x9_2).f2)) = some (r1, r2) := by rw [if_neg (show ¬ (false = true) by decide)] at H; exact H
                                clear H
                                have H := H1
                                clear H1
                                have H' := Aside0.mk H
                                clear H
                                obtain ⟨Ao34, co34, eo34⟩ := Kd.R_slice HO_8.out
                                subst eo34
                                try go_wp2
                                have n0_ := Aside0.mk (Kd.R_drew HO_8.out)
                                have n1_ := Aside0.mk (Kd.R_drew HO_11.out)
                                have n2_ := Aside0.mk (blk_drew BK111.out)
                                have n3_ := Aside0.mk (below_drew1 HB.out)
                                clear HO_8
                                clear HO_11
                                clear BK111
                                clear HB
                                have HO_8 := n0_
                                have HO_11 := n1_
                                have BK111 := n2_
                                have HB := n3_
                                clear n0_ n1_ n2_ n3_
                                have p112 : 0 ≤ (x12_4 : Int) := of_decide_eq_true (by first | (with_reducible assumption) | assumption)
                                have q112 : x12_4 < (x8_2.length : Int) := of_decide_eq_true (by first | (with_reducible assumption) | assumption)
                                obtain ⟨ad112, e112, hx112_0, hx112_1, hx112_2⟩ := at_T35 (Kd.R_reads' HO_8.out).2.2 x12_4 p112 q112
                                cases e112
                                replace p112 := eq_true p112
                                replace q112 := eq_true q112
                                refine start_ (n := 6) (S := fun w' => w'.cell? ⟨gb111, 0, none⟩ = some (.int .i64 ((rd_T35 l0 x9_2).f0)) ∧ w'.cell? ⟨gb111, 1, none⟩ = some (.int .i64 ((rd_T35 l0 x9_2).f1)) ∧ w'.cell? ⟨gb111, 2, none⟩ = some (.int .i64 ((rd_T35 l0 x9_2).f2)) ∧ w'.cell? (ad112.add ((x12_4).toNat * 3)) = some (.int .i64 ((rd_T35 x8_2 x12_4).f0)) ∧ w'.cell? ⟨(ad112.add ((x12_4).toNat * 3)).block, (ad112.add ((x12_4).toNat * 3)).off + 1, none⟩ = some (.int .i64 ((rd_T35 x8_2 x12_4).f1)) ∧ w'.cell? ⟨(ad112.add ((x12_4).toNat * 3)).block, (ad112.add ((x12_4).toNat * 3)).off + 2, none⟩ = some (.int .i64 ((rd_T35 x8_2 x12_4).f2))) (ds := []) #[false, false, false, false, false, false] (by kernel_rfl) rfl rfl ⟨(blk_cell BK111.out 0).trans rfl, (blk_cell BK111.out 1).trans rfl, (blk_cell BK111.out 2).trans rfl, hx112_0, hx112_1, hx112_2⟩ (fun hHeld => ?_)
                                generalize wr.drew = w35 at HO_8 HO_11 BK111 HB hx112_0 hx112_1 hx112_2 hHeld ⊢
                                refine pure_ (i := 0) (N := some 60) (v := ?_) (a' := ?_) #[true, false, false, false, false, false] rfl rfl (by kernel_rfl) (fun _ _ _ h => h) (Or.inl ⟨by rfl, ?_⟩) ?_ ?_
                                rotate_left
                                · intro w'
                                  go_simp
                                  with_reducible rfl
                                rotate_left
                                · simp only [Act.put, List.setIfInBounds_toArray, List.set_cons_zero, List.set_cons_succ, i64_w, i32_w]
                                  rfl
                                refine pure_ (i := 1) (N := some 61) (v := ?_) (a' := ?_) #[true, true, false, false, false, false] rfl rfl (by kernel_rfl) (fun _ _ _ h => h) (Or.inl ⟨by rfl, ?_⟩) ?_ ?_
                                rotate_left
                                · intro w'
                                  go_simp
                                  with_reducible rfl
                                rotate_left
                                · simp only [Act.put, List.setIfInBounds_toArray, List.set_cons_zero, List.set_cons_succ, i64_w, i32_w]
                                  rfl
                                refine pure_ (i := 2) (N := some 62) (v := ?_) (a' := ?_) #[true, true, true, false, false, false] rfl rfl (by kernel_rfl) (fun _ _ _ h => h) (Or.inl ⟨by rfl, ?_⟩) ?_ ?_
                                rotate_left
                                · intro w'
                                  go_simp
                                  with_reducible rfl
                                rotate_left
                                · simp only [Act.put, List.setIfInBounds_toArray, List.set_cons_zero, List.set_cons_succ, i64_w, i32_w]
                                  rfl
                                refine take_ (i := 3) (N := some 63) (v := ?_) (a' := ?_) #[true, true, true, true, false, false] rfl rfl (by kernel_rfl) (fun _ _ _ h => h) (Or.inl ⟨by rfl, ?_⟩) hHeld ?_ ?_
                                rotate_left
                                · rintro w' ⟨s0, s1, s2, s3, s4, s5⟩
                                  go_simp
                                  with_reducible rfl
                                rotate_left
                                · simp only [Act.put, List.setIfInBounds_toArray, List.set_cons_zero, List.set_cons_succ, i64_w, i32_w]
                                  rfl
                                refine take_ (i := 4) (N := some 64) (v := ?_) (a' := ?_) #[true, true, true, true, true, false] rfl rfl (by kernel_rfl) (fun _ _ _ h => h) (Or.inl ⟨by rfl, ?_⟩) hHeld ?_ ?_
                                rotate_left
                                · rintro w' ⟨s0, s1, s2, s3, s4, s5⟩
                                  go_simp
                                  with_reducible rfl
                                rotate_left
                                · simp only [Act.put, List.setIfInBounds_toArray, List.set_cons_zero, List.set_cons_succ, i64_w, i32_w]
                                  rfl
                                refine one_ (i := 5) (N := some 65) #[true, true, true, true, true, true] rfl rfl (by kernel_rfl) (by decide) (fun K hK => ?_)
                                refine goes_ Try.func16 (by kernel_rfl) rfl #[.agg #[.int .i64 ((rd_T35 x8_2 x12_4).f0), .int .i64 ((rd_T35 x8_2 x12_4).f1), .int .i64 ((rd_T35 x8_2 x12_4).f2)], .agg #[.int .i64 ((rd_T35 l0 x9_2).f0), .int .i64 ((rd_T35 l0 x9_2).f1), .int .i64 ((rd_T35 l0 x9_2).f2)]] (by rfl) rfl rfl (by (try simp only [List.map_toArray, List.map_cons, List.map_nil]); first | done | rfl | (simp only [List.length_drop, List.length_take]; rfl)) ?_
                                with_reducible refine (haymowref17_Ahead.calls ((rd_T35 x8_2 x12_4).f0) ((rd_T35 x8_2 x12_4).f1) ((rd_T35 x8_2 x12_4).f2) ((rd_T35 l0 x9_2).f0) ((rd_T35 l0 x9_2).f1) ((rd_T35 l0 x9_2).f2) false _ A27.out).mono ?_
                                rintro e w36 ⟨rfl, hb⟩
                                have HS3_ := (hb.cell (World.block_lt_of_cell? _ _ (hHeld.2.2.2.1))).trans (hHeld.2.2.2.1)
                                have HS4_ := (hb.cell (World.block_lt_of_cell? _ _ (hHeld.2.2.2.2.1))).trans (hHeld.2.2.2.2.1)
                                have HS5_ := (hb.cell (World.block_lt_of_cell? _ _ (hHeld.2.2.2.2.2))).trans (hHeld.2.2.2.2.2)
                                refine ⟨_, rfl, ?_⟩
                                have n0_ := Aside0.mk (Kd.R_below (by (with_reducible repeat (first | apply Kd.R_alloc | apply Kd.R_drewN | apply Kd.R_drew)); exact HO_8.out) hb)
                                have n1_ := Aside0.mk (Kd.R_below (by (with_reducible repeat (first | apply Kd.R_alloc | apply Kd.R_drewN | apply Kd.R_drew)); exact HO_11.out) hb)
                                have n2_ := Aside0.mk (blk_below (g := gb111) (o := .cells #[.int .i64 ((rd_T35 l0 x9_2).f0), .int .i64 ((rd_T35 l0 x9_2).f1), .int .i64 ((rd_T35 l0 x9_2).f2)] 35 (0, 0)) (by (with_reducible repeat (first | refine blk_drewN ?_ _ | refine blk_drew ?_ | refine blk_alloc ?_ _)); exact BK111.out) hb)
                                have n3_ := Aside0.mk (below_step (by repeat (first | (with_reducible first | exact HB.out | apply below_alloc | apply pw_below_drewN | apply below_drew1 | refine below_set ?_ GE111.out) | exact HB.out)) hb)
                                clear HO_8
                                clear HO_11
                                clear BK111
                                clear HB
                                have HO_8 := n0_
                                have HO_11 := n1_
                                have BK111 := n2_
                                have HB := n3_
                                clear n0_ n1_ n2_ n3_
                                (try clear hb)
                                (try clear hb2)
                                (try clear hk)
                                (try clear hi)
                                refine hK.out _ _ ⟨(blk_cell BK111.out 0).trans rfl, (blk_cell BK111.out 1).trans rfl, (blk_cell BK111.out 2).trans rfl, HS3_, HS4_, HS5_⟩ (fun hHeld => ?_)
                                clear hK K
                                refine norm_ (a' := ?_) ?_ ?_
                                rotate_left
                                · show Act.put _ (some 65) _ = _
                                  simp only [Act.put, List.setIfInBounds_toArray, List.set_cons_zero, List.set_cons_succ, i64_w, i32_w]
                                  rfl
                                refine done_ (by kernel_rfl) ?_
                                try go_wp2
                                go_roundg k4
                                case measure => have := HJ3.out; have := HK2.out; have := HJ17.out; have := HK4.out; omega
                                case rel => exact ⟨(x11_4), (wrap64 (x12_4 + 1)), (by first | rfl | (simp; done) | (simp [*]; done)), H', ⟨by have := HJ3.out; have := HK2.out; have := HJ17.out; have := HK4.out; omega⟩, ⟨by (with_reducible repeat (first | apply Kd.R_alloc | apply Kd.R_drewN | apply Kd.R_drew)); exact HO_8.out⟩, ⟨by (with_reducible repeat (first | apply Kd.R_alloc | apply Kd.R_drewN | apply Kd.R_drew)); exact HO_11.out⟩, ⟨by (with_reducible repeat (first | refine blk_drewN ?_ _ | refine blk_drew ?_ | refine blk_alloc ?_ _)); exact BK111.out⟩, ⟨by repeat (first | (with_reducible first | exact HB.out | apply below_alloc | apply pw_below_drewN | apply below_drew1 | refine below_set ?_ GE111.out) | exact HB.out)⟩⟩
                            · rw [if_neg c26] at H
                              exact absurd H (by simp)
                          · rw [if_neg c25] at H
                            have c25b0 : decide (x12_4 < (x8_2.length : Int)) = false := decide_eq_false c25
                            clear c25
                            by_cases c37 : x11_4.length < 5864062014805
                            · rw [if_pos c37] at H
                              have LMc37 := Aside0.mk c37
                              clear c37
                              obtain ⟨y118, hy118⟩ : ∃ y_ : List (S35), y_ = (x11_4 ++ [(⟨((rd_T35 l0 x9_2).f0), ((rd_T35 l0 x9_2).f1), ((rd_T35 l0 x9_2).f2)⟩ : S35)]) := ⟨_, rfl⟩
                              replace H : (haymowref17_Cold.l2 k4 l0 a1 a2 x8_2 x9_2 y118 0 ((rd_T35 l0 x9_2).f0) ((rd_T35 l0 x9_2).f1) ((rd_T35 l0 x9_2).f2)) = some (r1, r2) := by first | (rw [hy118]; with_reducible exact H) | (have H2_ := (Option.bind_some _ _).symm.trans H; rw [hy118]; with_reducible exact H2_) | (have H2_ := (Option.bind_some _ _).symm.trans H; with_reducible exact H2_) | with_reducible exact H | (rw [hy118]; exact H) | exact H
                              have Ny118 := Aside0.mk hy118
                              clear hy118
                              have H' := Aside0.mk H
                              clear H
                              obtain ⟨Ao38, co38, eo38⟩ := Kd.R_slice HO_8.out
                              subst eo38
                              have hcz39_0 : wr.cell? ⟨gb111, 0, none⟩ = some (.int .i64 ((rd_T35 l0 x9_2).f0)) := (blk_cell BK111.out 0).trans rfl
                              have hcz39_1 : wr.cell? ⟨gb111, 1, none⟩ = some (.int .i64 ((rd_T35 l0 x9_2).f1)) := (blk_cell BK111.out 1).trans rfl
                              have hcz39_2 : wr.cell? ⟨gb111, 2, none⟩ = some (.int .i64 ((rd_T35 l0 x9_2).f2)) := (blk_cell BK111.out 2).trans rfl
                              have hfz39_0 := blk_frozen BK111.out 0
                              have hfz39_1 := blk_frozen BK111.out 1
                              have hfz39_2 := blk_frozen BK111.out 2
                              go_wp2_with (first | ((with_reducible refine gate_builtin (b := .append) (xs := #[.tmp 73, .tmp 75]) rfl ?_); at_builtin; refine Kd.R_append k35 (w0 := w) w.heap.size rfl (.tmp 73) (.tmp 75) 22 35 (.agg #[(.int .i64 0), (.int .i64 0), (.int .i64 0)]) 24 rfl Try.underlying22 info35 rfl (by decide) (by omega) u11 x11_4 (⟨((rd_T35 l0 x9_2).f0), ((rd_T35 l0 x9_2).f1), ((rd_T35 l0 x9_2).f2)⟩ : S35) [.int .i64 ((rd_T35 l0 x9_2).f0), .int .i64 ((rd_T35 l0 x9_2).f1), .int .i64 ((rd_T35 l0 x9_2).f2)] (fun k_ => some k_ ≠ (.slice Ao38 x8_2.length co38 : Value).ownBlock ∧ k_ ≠ gb111) (fun _ => False) rfl rfl ?aP (fun _ hk => hk.elim) ?aF ?aO ?aB ?aS ?aL ?_; (case aP => exact k35_mkM _ _ _ (⟨((rd_T35 l0 x9_2).f0), ((rd_T35 l0 x9_2).f1), ((rd_T35 l0 x9_2).f2)⟩ : S35)); (case aB => exact (by repeat (first | (with_reducible first | exact HB.out | apply below_alloc | apply pw_below_drewN | apply below_drew1 | refine below_set ?_ GE111.out) | exact HB.out))); (case aF => exact (fun k_ hk => ⟨Kd.fresh' (Kd.R_lt (by (with_reducible repeat (first | apply Kd.R_alloc | apply Kd.R_drewN | apply Kd.R_drew)); exact HO_8.out)) k_ hk, Kd.freshB (g := gb111) (o := .cells #[.int .i64 ((rd_T35 l0 x9_2).f0), .int .i64 ((rd_T35 l0 x9_2).f1), .int .i64 ((rd_T35 l0 x9_2).f2)] 35 (0, 0)) (by (with_reducible repeat (first | refine blk_drewN ?_ _ | refine blk_drew ?_ | refine blk_alloc ?_ _)); exact BK111.out) k_ hk⟩)); (case aO => exact (by (with_reducible repeat (first | apply Kd.R_alloc | apply Kd.R_drewN | apply Kd.R_drew)); exact HO_11.out)); (case aS => exact (below_size (by repeat (first | (with_reducible first | exact HB.out | apply below_alloc | apply pw_below_drewN | apply below_drew1 | refine below_set ?_ GE111.out) | exact HB.out)))); (case aL => have := LMc37.out; omega); intro v119 w40 ho hb hg hat; rw [← Ny118.out] at ho; have n0_ := Aside0.mk (Kd.R_after (ok := (fun k_ => k_ ≠ gb111)) (by (with_reducible repeat (first | apply Kd.R_alloc | apply Kd.R_drewN | apply Kd.R_drew)); exact Kd.R_mono HO_8.out (fun _ hk => ⟨hk.2, hk.1⟩)) hg hat); have n1_ := Aside0.mk (blk_grown (g := gb111) (o := .cells #[.int .i64 ((rd_T35 l0 x9_2).f0), .int .i64 ((rd_T35 l0 x9_2).f1), .int .i64 ((rd_T35 l0 x9_2).f2)] 35 (0, 0)) (by (with_reducible repeat (first | refine blk_drewN ?_ _ | refine blk_drew ?_ | refine blk_alloc ?_ _)); exact BK111.out) hg (Kd.R_away HO_11.out (fun _ hk => hk.2))); have n2_ := Aside0.mk (hb); have n3_ := Aside0.mk (ho); clear HO_8; clear BK111; clear HB; clear HO_11; have HO_8 := n0_; have BK111 := n1_; have HB := n2_; have HO120 := n3_; clear n0_ n1_ n2_ n3_; clear ho hb hg hat))
                              go_loopg [11, 13] k4 (fun kq v11 v13 w' => ∃ (x11_5 : List (S35)) (x13_5 : Int), v13 = .int .i64 x13_5 ∧ Aside0 (haymowref17_Cold.l2 kq l0 a1 a2 x8_2 x9_2 x11_5 x13_5 ((rd_T35 l0 x9_2).f0) ((rd_T35 l0 x9_2).f1) ((rd_T35 l0 x9_2).f2) = some (r1, r2)) ∧ Aside0 (kq ≤ k4) ∧ Aside0 (Kd.R k35 35 w' w.heap.size (fun k_ => some k_ ≠ (v11 : Value).ownBlock ∧ k_ ≠ gb111) (.slice Ao38 x8_2.length co38) x8_2) ∧ Aside0 (Kd.R k35 35 w' w.heap.size (fun k_ => some k_ ≠ ((.slice Ao38 x8_2.length co38) : Value).ownBlock ∧ k_ ≠ gb111) v11 x11_5) ∧ Aside0 (w'.heap[gb111]? = some (.cells #[.int .i64 ((rd_T35 l0 x9_2).f0), .int .i64 ((rd_T35 l0 x9_2).f1), .int .i64 ((rd_T35 l0 x9_2).f2)] 35 (0, 0))) ∧ Aside0 (Below w.heap.size w w'))
                              case atStart => exact ⟨(y118), (0), (by first | rfl | (simp; done) | (simp [*]; done)), H', ⟨Nat.le_refl _⟩, ⟨by (with_reducible repeat (first | apply Kd.R_alloc | apply Kd.R_drewN | apply Kd.R_drew)); exact Kd.R_mono HO_8.out (fun _ hk => ⟨hk.2, hk.1⟩)⟩, ⟨by (with_reducible repeat (first | apply Kd.R_alloc | apply Kd.R_drewN | apply Kd.R_drew)); exact HO120.out⟩, ⟨by (with_reducible repeat (first | refine blk_drewN ?_ _ | refine blk_drew ?_ | refine blk_alloc ?_ _)); exact BK111.out⟩, ⟨by repeat (first | (with_reducible first | exact HB.out | apply below_alloc | apply pw_below_drewN | apply below_drew1 | refine below_set ?_ GE111.out) | exact HB.out)⟩⟩
                              case round =>
                                clear H'
                                try clear c1
                                try clear p1
                                try clear q1
                                try clear hx1
                                try clear c2
                                try clear p2
                                try clear c3
                                try clear c4
                                try clear c6
                                try clear p6
                                try clear c7
                                try clear c7b0
                                try clear c9
                                try clear c9b0
                                try clear c11
                                try clear c11b0
                                try clear p11
                                try clear q11
                                try clear hx11
                                try clear c15
                                try clear c16
                                try clear c16b0
                                try clear c17
                                try clear c17b0
                                try clear c21
                                try clear c21b0
                                try clear c24
                                try clear c25
                                try clear c25b0
                                try clear c26
                                try clear c26b0
                                try clear c28
                                try clear c29
                                try clear c37
                                try clear hcz20_0
                                try clear hcz20_1
                                try clear hcz20_2
                                try clear hcz22_0
                                try clear hcz22_1
                                try clear hcz22_2
                                try clear hcz23_0
                                try clear hcz23_1
                                try clear hcz23_2
                                try clear hcz39_0
                                try clear hcz39_1
                                try clear hcz39_2
                                try clear hfz20_0
                                try clear hfz20_1
                                try clear hfz20_2
                                try clear hfz22_0
                                try clear hfz22_1
                                try clear hfz22_2
                                try clear hfz23_0
                                try clear hfz23_1
                                try clear hfz23_2
                                try clear hfz39_0
                                try clear hfz39_1
                                try clear hfz39_2
                                try clear hx110_0
                                try clear hx110_1
                                try clear hx110_2
                                try clear hx112_0
                                try clear hx112_1
                                try clear hx112_2
                                try clear hx114_0
                                try clear hx114_1
                                try clear hx114_2
                                try clear p1
                                try clear p11
                                try clear p110
                                try clear p112
                                try clear p114
                                try clear p2
                                try clear p6
                                try clear q1
                                try clear q11
                                try clear q110
                                try clear q112
                                try clear q114
                                obtain ⟨x11_5, x13_5, rfl, HA, HK5, HO_8, HO_11, BK111, HB⟩ := hrel
                                cases gk with
                                | zero => exact absurd HA.out (by simp [haymowref17_Cold.l2])
                                | succ k5 =>
                                  have H := HA.out
                                  clear HA
                                  simp only [haymowref17_Cold.l2] at H
                                  by_cases c41 : x13_5 < (x8_2.length : Int)
                                  · rw [if_pos c41] at H
                                    have c41b0 : decide (x13_5 < (x8_2.length : Int)) = true := decide_eq_true c41
                                    clear c41
                                    by_cases c42 : 0 ≤ x13_5
                                    · rw [if_pos c42] at H
                                      have c42b0 : decide (0 ≤ x13_5) = true := decide_eq_true c42
                                      clear c42
                                      replace H := Option.bind_eq_some_iff.mp H
                                      obtain ⟨t122, A430, H⟩ := H
                                      replace H : (if t122 = true then (haymowref17_Cold.l2 k5 l0 a1 a2 x8_2 x9_2 x11_5 (wrap64 (x13_5 + 1)) ((rd_T35 l0 x9_2).f0) ((rd_T35 l0 x9_2).f1) ((rd_T35 l0 x9_2).f2)) else (if x11_5.length < 5864062014805 then (haymowref17_Cold.l2 k5 l0 a1 a2 x8_2 x9_2 (x11_5 ++ [(⟨(rd_T35 x8_2 x13_5).f0, (rd_T35 x8_2 x13_5).f1, (rd_T35 x8_2 x13_5).f2⟩ : S35)]) (wrap64 (x13_5 + 1)) ((rd_T35 l0 x9_2).f0) ((rd_T35 l0 x9_2).f1) ((rd_T35 l0 x9_2).f2)) else (none))) = some (r1, r2) := H
                                      have A43 := Aside0.mk A430
                                      clear A430
                                      by_cases c44 : t122 = true
                                      · subst c44
                                        have H1 : (haymowref17_Cold.l2 k5 l0 a1 a2 x8_2 x9_2 x11_5 (wrap64 (x13_5 + 1)) ((rd_T35 l0 x9_2).f0) ((rd_T35 l0 x9_2).f1) ((rd_T35 l0 x9_2).f2)) = some (r1, r2) := by rw [if_pos rfl] at H; exact H
                                        clear H
                                        have H := H1
                                        clear H1
                                        have H' := Aside0.mk H
                                        clear H
                                        try go_wp2
                                        have n0_ := Aside0.mk (Kd.R_drew HO_8.out)
                                        have n1_ := Aside0.mk (Kd.R_drew HO_11.out)
                                        have n2_ := Aside0.mk (blk_drew BK111.out)
                                        have n3_ := Aside0.mk (below_drew1 HB.out)
                                        clear HO_8
                                        clear HO_11
                                        clear BK111
                                        clear HB
                                        have HO_8 := n0_
                                        have HO_11 := n1_
                                        have BK111 := n2_
                                        have HB := n3_
                                        clear n0_ n1_ n2_ n3_
                                        have p121 : 0 ≤ (x13_5 : Int) := of_decide_eq_true (by first | (with_reducible assumption) | assumption)
                                        have q121 : x13_5 < (x8_2.length : Int) := of_decide_eq_true (by first | (with_reducible assumption) | assumption)
                                        obtain ⟨ad121, e121, hx121_0, hx121_1, hx121_2⟩ := at_T35 (Kd.R_reads' HO_8.out).2.2 x13_5 p121 q121
                                        cases e121
                                        replace p121 := eq_true p121
                                        replace q121 := eq_true q121
                                        refine start_ (n := 7) (S := fun w' => w'.cell? ⟨gb111, 0, none⟩ = some (.int .i64 ((rd_T35 l0 x9_2).f0)) ∧ w'.cell? ⟨gb111, 1, none⟩ = some (.int .i64 ((rd_T35 l0 x9_2).f1)) ∧ w'.cell? ⟨gb111, 2, none⟩ = some (.int .i64 ((rd_T35 l0 x9_2).f2)) ∧ w'.cell? (ad121.add ((x13_5).toNat * 3)) = some (.int .i64 ((rd_T35 x8_2 x13_5).f0)) ∧ w'.cell? ⟨(ad121.add ((x13_5).toNat * 3)).block, (ad121.add ((x13_5).toNat * 3)).off + 1, none⟩ = some (.int .i64 ((rd_T35 x8_2 x13_5).f1)) ∧ w'.cell? ⟨(ad121.add ((x13_5).toNat * 3)).block, (ad121.add ((x13_5).toNat * 3)).off + 2, none⟩ = some (.int .i64 ((rd_T35 x8_2 x13_5).f2))) (ds := []) #[false, false, false, false, false, false, false] (by kernel_rfl) rfl rfl ⟨(blk_cell BK111.out 0).trans rfl, (blk_cell BK111.out 1).trans rfl, (blk_cell BK111.out 2).trans rfl, hx121_0, hx121_1, hx121_2⟩ (fun hHeld => ?_)
                                        generalize wr.drew = w45 at HO_8 HO_11 BK111 HB hx121_0 hx121_1 hx121_2 hHeld ⊢
                                        refine pure_ (i := 0) (N := some 83) (v := ?_) (a' := ?_) #[true, false, false, false, false, false, false] rfl rfl (by kernel_rfl) (fun _ _ _ h => h) (Or.inl ⟨by rfl, ?_⟩) ?_ ?_
                                        rotate_left
                                        · intro w'
                                          go_simp
                                          with_reducible rfl
                                        rotate_left
                                        · simp only [Act.put, List.setIfInBounds_toArray, List.set_cons_zero, List.set_cons_succ, i64_w, i32_w]
                                          rfl
                                        refine pure_ (i := 1) (N := some 84) (v := ?_) (a' := ?_) #[true, true, false, false, false, false, false] rfl rfl (by kernel_rfl) (fun _ _ _ h => h) (Or.inl ⟨by rfl, ?_⟩) ?_ ?_
                                        rotate_left
                                        · intro w'
                                          go_simp
                                          with_reducible rfl
                                        rotate_left
                                        · simp only [Act.put, List.setIfInBounds_toArray, List.set_cons_zero, List.set_cons_succ, i64_w, i32_w]
                                          rfl
                                        refine pure_ (i := 2) (N := some 85) (v := ?_) (a' := ?_) #[true, true, true, false, false, false, false] rfl rfl (by kernel_rfl) (fun _ _ _ h => h) (Or.inl ⟨by rfl, ?_⟩) ?_ ?_
                                        rotate_left
                                        · intro w'
                                          go_simp
                                          with_reducible rfl
                                        rotate_left
                                        · simp only [Act.put, List.setIfInBounds_toArray, List.set_cons_zero, List.set_cons_succ, i64_w, i32_w]
                                          rfl
                                        refine take_ (i := 3) (N := some 86) (v := ?_) (a' := ?_) #[true, true, true, true, false, false, false] rfl rfl (by kernel_rfl) (fun _ _ _ h => h) (Or.inl ⟨by rfl, ?_⟩) hHeld ?_ ?_
                                        rotate_left
                                        · rintro w' ⟨s0, s1, s2, s3, s4, s5⟩
                                          go_simp
                                          with_reducible rfl
                                        rotate_left
                                        · simp only [Act.put, List.setIfInBounds_toArray, List.set_cons_zero, List.set_cons_succ, i64_w, i32_w]
                                          rfl
                                        refine take_ (i := 4) (N := some 87) (v := ?_) (a' := ?_) #[true, true, true, true, true, false, false] rfl rfl (by kernel_rfl) (fun _ _ _ h => h) (Or.inl ⟨by rfl, ?_⟩) hHeld ?_ ?_
                                        rotate_left
                                        · rintro w' ⟨s0, s1, s2, s3, s4, s5⟩
                                          go_simp
                                          with_reducible rfl
                                        rotate_left
                                        · simp only [Act.put, List.setIfInBounds_toArray, List.set_cons_zero, List.set_cons_succ, i64_w, i32_w]
                                          rfl
                                        refine one_ (i := 5) (N := some 88) #[true, true, true, true, true, true, false] rfl rfl (by kernel_rfl) (by decide) (fun K hK => ?_)
                                        refine goes_ Try.func16 (by kernel_rfl) rfl #[.agg #[.int .i64 ((rd_T35 x8_2 x13_5).f0), .int .i64 ((rd_T35 x8_2 x13_5).f1), .int .i64 ((rd_T35 x8_2 x13_5).f2)], .agg #[.int .i64 ((rd_T35 l0 x9_2).f0), .int .i64 ((rd_T35 l0 x9_2).f1), .int .i64 ((rd_T35 l0 x9_2).f2)]] (by rfl) rfl rfl (by (try simp only [List.map_toArray, List.map_cons, List.map_nil]); first | done | rfl | (simp only [List.length_drop, List.length_take]; rfl)) ?_
                                        with_reducible refine (haymowref17_Ahead.calls ((rd_T35 x8_2 x13_5).f0) ((rd_T35 x8_2 x13_5).f1) ((rd_T35 x8_2 x13_5).f2) ((rd_T35 l0 x9_2).f0) ((rd_T35 l0 x9_2).f1) ((rd_T35 l0 x9_2).f2) true _ A43.out).mono ?_
                                        rintro e w46 ⟨rfl, hb⟩
                                        have HS3_ := (hb.cell (World.block_lt_of_cell? _ _ (hHeld.2.2.2.1))).trans (hHeld.2.2.2.1)
                                        have HS4_ := (hb.cell (World.block_lt_of_cell? _ _ (hHeld.2.2.2.2.1))).trans (hHeld.2.2.2.2.1)
                                        have HS5_ := (hb.cell (World.block_lt_of_cell? _ _ (hHeld.2.2.2.2.2))).trans (hHeld.2.2.2.2.2)
                                        refine ⟨_, rfl, ?_⟩
                                        have n0_ := Aside0.mk (Kd.R_below (by (with_reducible repeat (first | apply Kd.R_alloc | apply Kd.R_drewN | apply Kd.R_drew)); exact HO_8.out) hb)
                                        have n1_ := Aside0.mk (Kd.R_below (by (with_reducible repeat (first | apply Kd.R_alloc | apply Kd.R_drewN | apply Kd.R_drew)); exact HO_11.out) hb)
                                        have n2_ := Aside0.mk (blk_below (g := gb111) (o := .cells #[.int .i64 ((rd_T35 l0 x9_2).f0), .int .i64 ((rd_T35 l0 x9_2).f1), .int .i64 ((rd_T35 l0 x9_2).f2)] 35 (0, 0)) (by (with_reducible repeat (first | refine blk_drewN ?_ _ | refine blk_drew ?_ | refine blk_alloc ?_ _)); exact BK111.out) hb)
                                        have n3_ := Aside0.mk (below_step (by repeat (first | (with_reducible first | exact HB.out | apply below_alloc | apply pw_below_drewN | apply below_drew1 | refine below_set ?_ GE111.out) | exact HB.out)) hb)
                                        clear HO_8
                                        clear HO_11
                                        clear BK111
                                        clear HB
                                        have HO_8 := n0_
                                        have HO_11 := n1_
                                        have BK111 := n2_
                                        have HB := n3_
                                        clear n0_ n1_ n2_ n3_
                                        (try clear hb)
                                        (try clear hb2)
                                        (try clear hk)
                                        (try clear hi)
                                        refine hK.out _ _ ⟨(blk_cell BK111.out 0).trans rfl, (blk_cell BK111.out 1).trans rfl, (blk_cell BK111.out 2).trans rfl, HS3_, HS4_, HS5_⟩ (fun hHeld => ?_)
                                        clear hK K
                                        refine norm_ (a' := ?_) ?_ ?_
                                        rotate_left
                                        · show Act.put _ (some 88) _ = _
                                          simp only [Act.put, List.setIfInBounds_toArray, List.set_cons_zero, List.set_cons_succ, i64_w, i32_w]
                                          rfl
                                        refine pure_ (i := 6) (N := some 89) (v := ?_) (a' := ?_) #[true, true, true, true, true, true, true] rfl rfl (by kernel_rfl) (fun _ _ _ h => h) (Or.inl ⟨by rfl, ?_⟩) ?_ ?_
                                        rotate_left
                                        · intro w'
                                          go_simp
                                          with_reducible rfl
                                        rotate_left
                                        · simp only [Act.put, List.setIfInBounds_toArray, List.set_cons_zero, List.set_cons_succ, i64_w, i32_w]
                                          rfl
                                        refine done_ (by kernel_rfl) ?_
                                        try go_wp2
                                        go_roundg k5
                                        case measure => have := HJ3.out; have := HK2.out; have := HJ17.out; have := HK4.out; have := HK5.out; omega
                                        case rel => exact ⟨(x11_5), (wrap64 (x13_5 + 1)), (by first | rfl | (simp; done) | (simp [*]; done)), H', ⟨by have := HJ3.out; have := HK2.out; have := HJ17.out; have := HK4.out; have := HK5.out; omega⟩, ⟨by (with_reducible repeat (first | apply Kd.R_alloc | apply Kd.R_drewN | apply Kd.R_drew)); exact HO_8.out⟩, ⟨by (with_reducible repeat (first | apply Kd.R_alloc | apply Kd.R_drewN | apply Kd.R_drew)); exact HO_11.out⟩, ⟨by (with_reducible repeat (first | refine blk_drewN ?_ _ | refine blk_drew ?_ | refine blk_alloc ?_ _)); exact BK111.out⟩, ⟨by repeat (first | (with_reducible first | exact HB.out | apply below_alloc | apply pw_below_drewN | apply below_drew1 | refine below_set ?_ GE111.out) | exact HB.out)⟩⟩
                                      · replace c44 := Bool.eq_false_iff.mpr c44
                                        subst c44
                                        have H1 : (if x11_5.length < 5864062014805 then (haymowref17_Cold.l2 k5 l0 a1 a2 x8_2 x9_2 (x11_5 ++ [(⟨(rd_T35 x8_2 x13_5).f0, (rd_T35 x8_2 x13_5).f1, (rd_T35 x8_2 x13_5).f2⟩ : S35)]) (wrap64 (x13_5 + 1)) ((rd_T35 l0 x9_2).f0) ((rd_T35 l0 x9_2).f1) ((rd_T35 l0 x9_2).f2)) else (none)) = some (r1, r2) := by rw [if_neg (show ¬ (false = true) by decide)] at H; exact H
                                        clear H
                                        have H := H1
                                        clear H1
                                        by_cases c47 : x11_5.length < 5864062014805
                                        · rw [if_pos c47] at H
                                          have LMc47 := Aside0.mk c47
                                          clear c47
                                          obtain ⟨y124, hy124⟩ : ∃ y_ : List (S35), y_ = (x11_5 ++ [(⟨(rd_T35 x8_2 x13_5).f0, (rd_T35 x8_2 x13_5).f1, (rd_T35 x8_2 x13_5).f2⟩ : S35)]) := ⟨_, rfl⟩
                                          replace H : (haymowref17_Cold.l2 k5 l0 a1 a2 x8_2 x9_2 y124 (wrap64 (x13_5 + 1)) ((rd_T35 l0 x9_2).f0) ((rd_T35 l0 x9_2).f1) ((rd_T35 l0 x9_2).f2)) = some (r1, r2) := by first | (rw [hy124]; with_reducible exact H) | (have H2_ := (Option.bind_some _ _).symm.trans H; rw [hy124]; with_reducible exact H2_) | (have H2_ := (Option.bind_some _ _).symm.trans H; with_reducible exact H2_) | with_reducible exact H | (rw [hy124]; exact H) | exact H
                                          have Ny124 := Aside0.mk hy124
                                          clear hy124
                                          have H' := Aside0.mk H
                                          clear H
                                          try go_wp2
                                          have n0_ := Aside0.mk (Kd.R_drew HO_8.out)
                                          have n1_ := Aside0.mk (Kd.R_drew HO_11.out)
                                          have n2_ := Aside0.mk (blk_drew BK111.out)
                                          have n3_ := Aside0.mk (below_drew1 HB.out)
                                          clear HO_8
                                          clear HO_11
                                          clear BK111
                                          clear HB
                                          have HO_8 := n0_
                                          have HO_11 := n1_
                                          have BK111 := n2_
                                          have HB := n3_
                                          clear n0_ n1_ n2_ n3_
                                          have p121 : 0 ≤ (x13_5 : Int) := of_decide_eq_true (by first | (with_reducible assumption) | assumption)
                                          have q121 : x13_5 < (x8_2.length : Int) := of_decide_eq_true (by first | (with_reducible assumption) | assumption)
                                          obtain ⟨ad121, e121, hx121_0, hx121_1, hx121_2⟩ := at_T35 (Kd.R_reads' HO_8.out).2.2 x13_5 p121 q121
                                          cases e121
                                          replace p121 := eq_true p121
                                          replace q121 := eq_true q121
                                          refine start_ (n := 7) (S := fun w' => w'.cell? ⟨gb111, 0, none⟩ = some (.int .i64 ((rd_T35 l0 x9_2).f0)) ∧ w'.cell? ⟨gb111, 1, none⟩ = some (.int .i64 ((rd_T35 l0 x9_2).f1)) ∧ w'.cell? ⟨gb111, 2, none⟩ = some (.int .i64 ((rd_T35 l0 x9_2).f2)) ∧ w'.cell? (ad121.add ((x13_5).toNat * 3)) = some (.int .i64 ((rd_T35 x8_2 x13_5).f0)) ∧ w'.cell? ⟨(ad121.add ((x13_5).toNat * 3)).block, (ad121.add ((x13_5).toNat * 3)).off + 1, none⟩ = some (.int .i64 ((rd_T35 x8_2 x13_5).f1)) ∧ w'.cell? ⟨(ad121.add ((x13_5).toNat * 3)).block, (ad121.add ((x13_5).toNat * 3)).off + 2, none⟩ = some (.int .i64 ((rd_T35 x8_2 x13_5).f2))) (ds := []) #[false, false, false, false, false, false, false] (by kernel_rfl) rfl rfl ⟨(blk_cell BK111.out 0).trans rfl, (blk_cell BK111.out 1).trans rfl, (blk_cell BK111.out 2).trans rfl, hx121_0, hx121_1, hx121_2⟩ (fun hHeld => ?_)
                                          generalize wr.drew = w48 at HO_8 HO_11 BK111 HB hx121_0 hx121_1 hx121_2 hHeld ⊢
                                          refine pure_ (i := 0) (N := some 83) (v := ?_) (a' := ?_) #[true, false, false, false, false, false, false] rfl rfl (by kernel_rfl) (fun _ _ _ h => h) (Or.inl ⟨by rfl, ?_⟩) ?_ ?_
                                          rotate_left
                                          · intro w'
                                            go_simp
                                            with_reducible rfl
                                          rotate_left
                                          · simp only [Act.put, List.setIfInBounds_toArray, List.set_cons_zero, List.set_cons_succ, i64_w, i32_w]
                                            rfl
                                          refine pure_ (i := 1) (N := some 84) (v := ?_) (a' := ?_) #[true, true, false, false, false, false, false] rfl rfl (by kernel_rfl) (fun _ _ _ h => h) (Or.inl ⟨by rfl, ?_⟩) ?_ ?_
                                          rotate_left
                                          · intro w'
                                            go_simp
                                            with_reducible rfl
                                          rotate_left
                                          · simp only [Act.put, List.setIfInBounds_toArray, List.set_cons_zero, List.set_cons_succ, i64_w, i32_w]
                                            rfl
                                          refine pure_ (i := 2) (N := some 85) (v := ?_) (a' := ?_) #[true, true, true, false, false, false, false] rfl rfl (by kernel_rfl) (fun _ _ _ h => h) (Or.inl ⟨by rfl, ?_⟩) ?_ ?_
                                          rotate_left
                                          · intro w'
                                            go_simp
                                            with_reducible rfl
                                          rotate_left
                                          · simp only [Act.put, List.setIfInBounds_toArray, List.set_cons_zero, List.set_cons_succ, i64_w, i32_w]
                                            rfl
                                          refine take_ (i := 3) (N := some 86) (v := ?_) (a' := ?_) #[true, true, true, true, false, false, false] rfl rfl (by kernel_rfl) (fun _ _ _ h => h) (Or.inl ⟨by rfl, ?_⟩) hHeld ?_ ?_
                                          rotate_left
                                          · rintro w' ⟨s0, s1, s2, s3, s4, s5⟩
                                            go_simp
                                            with_reducible rfl
                                          rotate_left
                                          · simp only [Act.put, List.setIfInBounds_toArray, List.set_cons_zero, List.set_cons_succ, i64_w, i32_w]
                                            rfl
                                          refine take_ (i := 4) (N := some 87) (v := ?_) (a' := ?_) #[true, true, true, true, true, false, false] rfl rfl (by kernel_rfl) (fun _ _ _ h => h) (Or.inl ⟨by rfl, ?_⟩) hHeld ?_ ?_
                                          rotate_left
                                          · rintro w' ⟨s0, s1, s2, s3, s4, s5⟩
                                            go_simp
                                            with_reducible rfl
                                          rotate_left
                                          · simp only [Act.put, List.setIfInBounds_toArray, List.set_cons_zero, List.set_cons_succ, i64_w, i32_w]
                                            rfl
                                          refine one_ (i := 5) (N := some 88) #[true, true, true, true, true, true, false] rfl rfl (by kernel_rfl) (by decide) (fun K hK => ?_)
                                          refine goes_ Try.func16 (by kernel_rfl) rfl #[.agg #[.int .i64 ((rd_T35 x8_2 x13_5).f0), .int .i64 ((rd_T35 x8_2 x13_5).f1), .int .i64 ((rd_T35 x8_2 x13_5).f2)], .agg #[.int .i64 ((rd_T35 l0 x9_2).f0), .int .i64 ((rd_T35 l0 x9_2).f1), .int .i64 ((rd_T35 l0 x9_2).f2)]] (by rfl) rfl rfl (by (try simp only [List.map_toArray, List.map_cons, List.map_nil]); first | done | rfl | (simp only [List.length_drop, List.length_take]; rfl)) ?_
                                          with_reducible refine (haymowref17_Ahead.calls ((rd_T35 x8_2 x13_5).f0) ((rd_T35 x8_2 x13_5).f1) ((rd_T35 x8_2 x13_5).f2) ((rd_T35 l0 x9_2).f0) ((rd_T35 l0 x9_2).f1) ((rd_T35 l0 x9_2).f2) false _ A43.out).mono ?_
                                          rintro e w49 ⟨rfl, hb⟩
                                          have HS3_ := (hb.cell (World.block_lt_of_cell? _ _ (hHeld.2.2.2.1))).trans (hHeld.2.2.2.1)
                                          have HS4_ := (hb.cell (World.block_lt_of_cell? _ _ (hHeld.2.2.2.2.1))).trans (hHeld.2.2.2.2.1)
                                          have HS5_ := (hb.cell (World.block_lt_of_cell? _ _ (hHeld.2.2.2.2.2))).trans (hHeld.2.2.2.2.2)
                                          refine ⟨_, rfl, ?_⟩
                                          have n0_ := Aside0.mk (Kd.R_below (by (with_reducible repeat (first | apply Kd.R_alloc | apply Kd.R_drewN | apply Kd.R_drew)); exact HO_8.out) hb)
                                          have n1_ := Aside0.mk (Kd.R_below (by (with_reducible repeat (first | apply Kd.R_alloc | apply Kd.R_drewN | apply Kd.R_drew)); exact HO_11.out) hb)
                                          have n2_ := Aside0.mk (blk_below (g := gb111) (o := .cells #[.int .i64 ((rd_T35 l0 x9_2).f0), .int .i64 ((rd_T35 l0 x9_2).f1), .int .i64 ((rd_T35 l0 x9_2).f2)] 35 (0, 0)) (by (with_reducible repeat (first | refine blk_drewN ?_ _ | refine blk_drew ?_ | refine blk_alloc ?_ _)); exact BK111.out) hb)
                                          have n3_ := Aside0.mk (below_step (by repeat (first | (with_reducible first | exact HB.out | apply below_alloc | apply pw_below_drewN | apply below_drew1 | refine below_set ?_ GE111.out) | exact HB.out)) hb)
                                          clear HO_8
                                          clear HO_11
                                          clear BK111
                                          clear HB
                                          have HO_8 := n0_
                                          have HO_11 := n1_
                                          have BK111 := n2_
                                          have HB := n3_
                                          clear n0_ n1_ n2_ n3_
                                          (try clear hb)
                                          (try clear hb2)
                                          (try clear hk)
                                          (try clear hi)
                                          refine hK.out _ _ ⟨(blk_cell BK111.out 0).trans rfl, (blk_cell BK111.out 1).trans rfl, (blk_cell BK111.out 2).trans rfl, HS3_, HS4_, HS5_⟩ (fun hHeld => ?_)
                                          clear hK K
                                          refine norm_ (a' := ?_) ?_ ?_
                                          rotate_left
                                          · show Act.put _ (some 88) _ = _
                                            simp only [Act.put, List.setIfInBounds_toArray, List.set_cons_zero, List.set_cons_succ, i64_w, i32_w]
                                            rfl
                                          refine pure_ (i := 6) (N := some 89) (v := ?_) (a' := ?_) #[true, true, true, true, true, true, true] rfl rfl (by kernel_rfl) (fun _ _ _ h => h) (Or.inl ⟨by rfl, ?_⟩) ?_ ?_
                                          rotate_left
                                          · intro w'
                                            go_simp
                                            with_reducible rfl
                                          rotate_left
                                          · simp only [Act.put, List.setIfInBounds_toArray, List.set_cons_zero, List.set_cons_succ, i64_w, i32_w]
                                            rfl
                                          refine done_ (by kernel_rfl) ?_
                                          have p123 : 0 ≤ (x13_5 : Int) := of_decide_eq_true (by first | (with_reducible assumption) | assumption)
                                          have q123 : x13_5 < (x8_2.length : Int) := of_decide_eq_true (by first | (with_reducible assumption) | assumption)
                                          obtain ⟨ad123, e123, hx123_0, hx123_1, hx123_2⟩ := at_T35 (Kd.R_reads' HO_8.out).2.2 x13_5 p123 q123
                                          obtain rfl : ad121 = ad123 := (by injection e123)
                                          replace p123 := eq_true p123
                                          replace q123 := eq_true q123
                                          try go_wp2_with (first | ((with_reducible refine gate_builtin (b := .append) (xs := #[.tmp 90, .tmp 95]) rfl ?_); at_builtin; refine Kd.R_append k35 (w0 := w) w.heap.size rfl (.tmp 90) (.tmp 95) 22 35 (.agg #[(.int .i64 0), (.int .i64 0), (.int .i64 0)]) 24 rfl Try.underlying22 info35 rfl (by decide) (by omega) u11 x11_5 (⟨(rd_T35 x8_2 x13_5).f0, (rd_T35 x8_2 x13_5).f1, (rd_T35 x8_2 x13_5).f2⟩ : S35) [.int .i64 ((rd_T35 x8_2 x13_5).f0), .int .i64 ((rd_T35 x8_2 x13_5).f1), .int .i64 ((rd_T35 x8_2 x13_5).f2)] (fun k_ => some k_ ≠ (.slice (some ad121) x8_2.length co38 : Value).ownBlock ∧ k_ ≠ gb111) (fun _ => False) rfl rfl ?aP (fun _ hk => hk.elim) ?aF ?aO ?aB ?aS ?aL ?_; (case aP => exact k35_mkM _ _ _ (⟨(rd_T35 x8_2 x13_5).f0, (rd_T35 x8_2 x13_5).f1, (rd_T35 x8_2 x13_5).f2⟩ : S35)); (case aB => exact (by repeat (first | (with_reducible first | exact HB.out | apply below_alloc | apply pw_below_drewN | apply below_drew1 | refine below_set ?_ GE111.out) | exact HB.out))); (case aF => exact (fun k_ hk => ⟨Kd.fresh' (Kd.R_lt (by (with_reducible repeat (first | apply Kd.R_alloc | apply Kd.R_drewN | apply Kd.R_drew)); exact HO_8.out)) k_ hk, Kd.freshB (g := gb111) (o := .cells #[.int .i64 ((rd_T35 l0 x9_2).f0), .int .i64 ((rd_T35 l0 x9_2).f1), .int .i64 ((rd_T35 l0 x9_2).f2)] 35 (0, 0)) (by (with_reducible repeat (first | refine blk_drewN ?_ _ | refine blk_drew ?_ | refine blk_alloc ?_ _)); exact BK111.out) k_ hk⟩)); (case aO => exact (by (with_reducible repeat (first | apply Kd.R_alloc | apply Kd.R_drewN | apply Kd.R_drew)); exact HO_11.out)); (case aS => exact (below_size (by repeat (first | (with_reducible first | exact HB.out | apply below_alloc | apply pw_below_drewN | apply below_drew1 | refine below_set ?_ GE111.out) | exact HB.out)))); (case aL => have := LMc47.out; omega); intro v125 w50 ho hb hg hat; rw [← Ny124.out] at ho; have n0_ := Aside0.mk (Kd.R_after (ok := (fun k_ => k_ ≠ gb111)) (by (with_reducible repeat (first | apply Kd.R_alloc | apply Kd.R_drewN | apply Kd.R_drew)); exact Kd.R_mono HO_8.out (fun _ hk => ⟨hk.2, hk.1⟩)) hg hat); have n1_ := Aside0.mk (blk_grown (g := gb111) (o := .cells #[.int .i64 ((rd_T35 l0 x9_2).f0), .int .i64 ((rd_T35 l0 x9_2).f1), .int .i64 ((rd_T35 l0 x9_2).f2)] 35 (0, 0)) (by (with_reducible repeat (first | refine blk_drewN ?_ _ | refine blk_drew ?_ | refine blk_alloc ?_ _)); exact BK111.out) hg (Kd.R_away HO_11.out (fun _ hk => hk.2))); have n2_ := Aside0.mk (hb); have n3_ := Aside0.mk (ho); clear HO_8; clear BK111; clear HB; clear HO_11; have HO_8 := n0_; have BK111 := n1_; have HB := n2_; have HO126 := n3_; clear n0_ n1_ n2_ n3_; clear ho hb hg hat))
                                          go_roundg k5
                                          case measure => have := HJ3.out; have := HK2.out; have := HJ17.out; have := HK4.out; have := HK5.out; omega
                                          case rel => exact ⟨(y124), (wrap64 (x13_5 + 1)), (by first | rfl | (simp; done) | (simp [*]; done)), H', ⟨by have := HJ3.out; have := HK2.out; have := HJ17.out; have := HK4.out; have := HK5.out; omega⟩, ⟨by (with_reducible repeat (first | apply Kd.R_alloc | apply Kd.R_drewN | apply Kd.R_drew)); exact Kd.R_mono HO_8.out (fun _ hk => ⟨hk.2, hk.1⟩)⟩, ⟨by (with_reducible repeat (first | apply Kd.R_alloc | apply Kd.R_drewN | apply Kd.R_drew)); exact HO126.out⟩, ⟨by (with_reducible repeat (first | refine blk_drewN ?_ _ | refine blk_drew ?_ | refine blk_alloc ?_ _)); exact BK111.out⟩, ⟨by repeat (first | (with_reducible first | exact HB.out | apply below_alloc | apply pw_below_drewN | apply below_drew1 | refine below_set ?_ GE111.out) | exact HB.out)⟩⟩
                                        · rw [if_neg c47] at H
                                          exact absurd H (by simp)
                                    · rw [if_neg c42] at H
                                      exact absurd H (by simp)
                                  · rw [if_neg c41] at H
                                    have c41b0 : decide (x13_5 < (x8_2.length : Int)) = false := decide_eq_false c41
                                    clear c41
                                    have H' := Aside0.mk H
                                    clear H
                                    go_wp2
                                    go_roundg k5
                                    case measure => have := HJ3.out; have := HK2.out; have := HJ17.out; have := HK4.out; have := HK5.out; omega
                                    case rel => exact ⟨(x11_5), (wrap64 (x9_2 + 1)), (by first | rfl | (simp; done) | (simp [*]; done)), H', ⟨by have := HJ3.out; have := HK2.out; have := HJ17.out; have := HK4.out; have := HK5.out; omega⟩, ⟨by (with_reducible repeat (first | apply Kd.R_alloc | apply Kd.R_drewN | apply Kd.R_drew)); exact Kd.R_mono HO_11.out (fun _ hk => trivial)⟩, ⟨by repeat (first | (with_reducible first | exact HB.out | apply below_alloc | apply pw_below_drewN | apply below_drew1 | refine below_set ?_ GE111.out) | exact HB.out)⟩⟩
                            · rw [if_neg c37] at H
                              exact absurd H (by simp)
              · rw [if_neg c17] at H
                exact absurd H (by simp)
            · rw [if_neg c16] at H
              have c16b0 : decide (x9_2 < (l0.length : Int)) = false := decide_eq_false c16
              clear c16
              simp only [Option.some.injEq, Prod.mk.injEq] at H
              obtain ⟨rfl, rfl⟩ := H
              go_wp2
              go_ret2
              exact ⟨_, by first | rfl | (simp [errW_none, errW_some] <;> rfl) | (simp [*, errW_none, errW_some] <;> rfl), by (with_reducible repeat (first | apply Kd.R_alloc | apply Kd.R_drewN | apply Kd.R_drew)); exact HO_8.out, by repeat (first | (with_reducible first | exact HB.out | apply below_alloc | apply pw_below_drewN | apply below_drew1) | exact HB.out)⟩

end Go.Proofs.Ytjpnbhcoagnpjaa.PHeatPicks
