/- ref.Pick; HeatPicks walked. -/
import Derived.Test.YtjpnbhcoagnpjaaHeatAwake
namespace Go.Proofs.Ytjpnbhcoagnpjaa
open Go.RowKit Go.Proofs.YtjpnbhcoagnpjaaW.PrintWords Go.Proofs.YtjpnbhcoagnpjaaW.PrintLast Go.Proofs.YtjpnbhcoagnpjaaW.PrintMore
open Go.Proofs.Ytjpnbhcoagnpjaa.PHeatPicks
set_option linter.unusedVariables false
set_option linter.unusedSimpArgs false

set_option maxHeartbeats 4000000 in
set_option maxRecDepth 100000 in
theorem refpick_calls (A0 : Option Addr) (c0 : Nat) (l0 : List S35) (now age most : Int) (w : World) (hr0 : Kd.C k35 w A0 l0.length l0) (hc0 : l0.length ≤ c0) (hn : l0.length ≤ 1000) (hmost : most ≤ 9223372036854775807) :
    Calls Try.prog 12 #[.slice A0 l0.length c0, .int .i64 now, .int .i64 age, .int .i64 most] w fun e w' => ∃ v, e = .returned (.tuple #[v, .bool (pickB l0 now age most)]) ∧ Rd w' v (pickL l0 now age most) ∧ Below w.heap.size w w' := by
  have HC := Aside0.mk (refcold_calls A0 c0 l0 now age w hr0 hc0 hn)
  clear hr0
  cases hcb : coldB l0 now age
  · have hpb : pickB l0 now age most = false := by rw [pickB, hcb]; rfl
    have hpl : pickL l0 now age most = [] := by rw [pickL, hpb]; rfl
    rw [hpb, hpl]
    rw [hcb] at HC
    clear hpb hpl hcb
    go_enter Try.func12, Try.ntmps12
    go_wp2_with fail
    refine HC.out.mono ?_
    rintro e w1 ⟨v, rfl, hv, hb⟩
    have HB := Aside0.mk hb
    clear hb
    go_wp2_with fail
    go_ret2
    exact ⟨_, rfl, Rd.nil _, HB.out⟩
  · by_cases h0 : 0 ≤ most
    · have hpb : pickB l0 now age most = true := by rw [pickB, hcb, decide_eq_true h0]; rfl
      have hpl : pickL l0 now age most = pickR (coldL l0 now age) most := by rw [pickL, hpb]; rfl
      rw [hpb, hpl]
      rw [hcb] at HC
      have hbd : ∀ x ∈ coldL l0 now age, 0 < x.f2 ∧ x.f2 ≤ 2147483647 := fun x hx => cold_bounds hx
      have hln := cold_length l0 now age
      generalize coldL l0 now age = cs at *
      have HBD := Aside0.mk hbd
      clear hpb hpl hcb hbd
      have h0b : decide (most < 0) = false := by simpa using h0
      go_enter Try.func12, Try.ntmps12
      go_wp2_with fail
      refine HC.out.mono ?_
      rintro e w1 ⟨v, rfl, ⟨A, c, rfl, hlc, hv⟩, hb⟩
      have HB := Aside0.mk hb
      have HV := Aside0.mk hv
      clear hb hv HC
      go_wp2_with fail
      go_loopw [3, 12, 13] (fun m vo i wr => ∃ (k : Nat) (mm : Int) (out : List S35), i = .int .i64 k ∧ k ≤ cs.length ∧ out.length ≤ k ∧ m = .int .i64 mm ∧ 0 ≤ mm ∧ mm ≤ 9223372036854775807 ∧ Aside0 (wr.ownsRow w1.heap.size 35 3 vo out.length (flat out)) ∧ Aside0 (Below w1.heap.size w1 wr) ∧ Aside0 (out ++ pickR (cs.drop k) mm = pickR cs most)) (fun _ _ i _ => cs.length - (intOf i).toNat)
      case atStart => exact ⟨0, most, [], rfl, Nat.zero_le _, Nat.le_refl _, rfl, h0, hmost, ⟨⟨rfl, .inl ⟨rfl, rfl⟩⟩⟩, ⟨Below.refl _ _⟩, ⟨rfl⟩⟩
      case round =>
        obtain ⟨k, mm, out, rfl, hk, hok, rfl, hm0, hm1, HO, HW, HE⟩ := hrel
        by_cases hlt : k < cs.length
        · have hx := HBD.out (rd_T35 cs k) (by simp [rd_T35, List.getD_eq_getElem?_getD, List.getElem?_eq_getElem hlt])
          obtain ⟨ad, rfl, hx0, hx1, hx2⟩ := at_T35 HV.out k (by omega) (by omega)
          replace hx0 := (HW.out.cell (World.block_lt_of_cell? w1 _ hx0)).trans hx0
          replace hx1 := (HW.out.cell (World.block_lt_of_cell? w1 _ hx1)).trans hx1
          replace hx2 := (HW.out.cell (World.block_lt_of_cell? w1 _ hx2)).trans hx2
          rw [Int.toNat_natCast] at hx0 hx1 hx2
          have he := HE.out
          rw [drop_cons hlt, pickR] at he
          generalize rd_T35 cs k = x at *
          obtain ⟨hxa, hxb⟩ := hx
          have HE := Aside0.mk he
          clear he
          by_cases hz : mm = 0
          · subst hz
            have hcut : (cutB x 0).f2 = 0 := by rw [cutB, if_pos hxa]
            have he : pickR cs most = out := by
              have h := HE.out
              rw [if_pos hcut] at h
              simpa using h.symm
            have HE2 := Aside0.mk he
            clear he hcut
            go_wp2_with fail
            go_ret2
            exact ⟨_, rfl, (by rw [HE2.out]; exact Rd.of_own HO.out), below_then HB.out HB.out.size HW.out⟩
          · have hzb : decide (0 < mm) = true := by simp; omega
            by_cases hmx : mm < x.f2
            · have hcut : (cutB x mm) = ⟨x.f0, x.f1, mm⟩ := by rw [cutB, if_pos hmx]
              rw [hcut] at HE
              clear hcut
              have he := HE.out
              rw [if_neg hz] at he
              have HE := Aside0.mk he
              clear he
              obtain ⟨y, hy⟩ : ∃ y : S35, y = ⟨x.f0, x.f1, mm⟩ := ⟨_, rfl⟩
              have hv : vals y = [.int .i64 x.f0, .int .i64 x.f1, .int .i64 mm] := by rw [hy]; rfl
              have HY2 : Aside0 (y.f2 = mm) := ⟨by rw [hy]⟩
              rw [← hy] at HE
              have HVY := Aside0.mk hv
              clear hv hy
              go_wp2_with (at_builtin; refine print_append_cells (w0 := w1) w1.heap.size rfl (.tmp 52) (.tmp 54) 22 35 _ 3 24 rfl Try.underlying22 info35 rfl (by decide) (by decide) u12 out.length (flat out) [.int .i64 x.f0, .int .i64 x.f1, .int .i64 mm] rfl (by rw [size_box]; rfl) rfl (HVY.out ▸ vals_one y) (HO.out.alloc _) (HW.out.alloc HW.out.size _) (by have := HW.out.size; simp; omega) (by omega) ?_; intro v3 w3 hown3 hb3 hg3 hat3; have HO3 := Aside0.mk hown3; have HB3 := Aside0.mk hb3; clear hown3 hb3 hg3 hat3)
              go_roundw
              case rel =>
                refine ⟨k + 1, mm - mm, out ++ [y], by go_num, by omega, by simp; omega, by simp, by omega, by omega, ⟨?_⟩, HB3, ⟨?_⟩⟩
                · rw [List.length_append, flat_app]
                  have h := HO3.out
                  rw [← HVY.out] at h
                  exact h
                · rw [← HE.out, List.append_assoc, HY2.out]
                  rfl
              case measure => simp [intOf]; omega
            · have hcut : (cutB x mm) = ⟨x.f0, x.f1, x.f2⟩ := by rw [cutB, if_neg hmx]
              rw [hcut] at HE
              clear hcut
              have hz2 : ¬ x.f2 = 0 := by omega
              have he := HE.out
              rw [if_neg hz2] at he
              have HE := Aside0.mk he
              clear he
              obtain ⟨y, hy⟩ : ∃ y : S35, y = ⟨x.f0, x.f1, x.f2⟩ := ⟨_, rfl⟩
              have hv : vals y = [.int .i64 x.f0, .int .i64 x.f1, .int .i64 x.f2] := by rw [hy]; rfl
              have HY2 : Aside0 (y.f2 = x.f2) := ⟨by rw [hy]⟩
              rw [← hy] at HE
              have HVY := Aside0.mk hv
              clear hv hy
              go_wp2_with (at_builtin; refine print_append_cells (w0 := w1) w1.heap.size rfl (.tmp 52) (.tmp 54) 22 35 _ 3 24 rfl Try.underlying22 info35 rfl (by decide) (by decide) u12 out.length (flat out) [.int .i64 x.f0, .int .i64 x.f1, .int .i64 x.f2] rfl (by rw [size_box]; rfl) rfl (HVY.out ▸ vals_one y) (HO.out.alloc _) (HW.out.alloc HW.out.size _) (by have := HW.out.size; simp; omega) (by omega) ?_; intro v3 w3 hown3 hb3 hg3 hat3; have HO3 := Aside0.mk hown3; have HB3 := Aside0.mk hb3; clear hown3 hb3 hg3 hat3)
              go_roundw
              case rel =>
                refine ⟨k + 1, mm - x.f2, out ++ [y], by go_num, by omega, by simp; omega, rfl, by omega, by omega, ⟨?_⟩, HB3, ⟨?_⟩⟩
                · rw [List.length_append, flat_app]
                  have h := HO3.out
                  rw [← HVY.out] at h
                  exact h
                · rw [← HE.out, List.append_assoc, HY2.out]
                  rfl
              case measure => simp [intOf]; omega
        · go_wp2_with fail
          go_ret2
          have he := HE.out
          rw [List.drop_of_length_le (by omega), pickR, List.append_nil] at he
          exact ⟨_, rfl, Rd.of_own (he ▸ HO.out), below_then HB.out HB.out.size HW.out⟩
    · have hpb : pickB l0 now age most = false := by rw [pickB, decide_eq_false h0, Bool.and_false]
      have hpl : pickL l0 now age most = [] := by rw [pickL, hpb]; rfl
      rw [hpb, hpl]
      rw [hcb] at HC
      clear hpb hpl hcb
      have h0b : decide (most < 0) = true := by simp; omega
      go_enter Try.func12, Try.ntmps12
      go_wp2_with fail
      refine HC.out.mono ?_
      rintro e w1 ⟨v, rfl, hv, hb⟩
      have HB := Aside0.mk hb
      clear hb
      go_wp2_with fail
      go_ret2
      exact ⟨_, rfl, Rd.nil _, HB.out⟩
end Go.Proofs.Ytjpnbhcoagnpjaa
