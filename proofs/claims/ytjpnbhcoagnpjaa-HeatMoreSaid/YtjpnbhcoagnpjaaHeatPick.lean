/- heat.Cold refused, heat.Pick: what is picked. -/
import Derived.Test.YtjpnbhcoagnpjaaCold
namespace Go.Proofs.Ytjpnbhcoagnpjaa
open Go.RowKit Go.Proofs.YtjpnbhcoagnpjaaW.PrintWords Go.Proofs.YtjpnbhcoagnpjaaW.PrintLast Go.Proofs.YtjpnbhcoagnpjaaW.PrintMore
open Go.Proofs.Ytjpnbhcoagnpjaa.PHeatPicks
attribute [local go_sem] max2_int min2_int max_two min_two
set_option linter.unusedVariables false
set_option linter.unusedSimpArgs false

theorem reps_flat (w : World) (base : Nat) (ok : Nat → Prop) (xs : List S35) : Reps (k35.M w base ok) 3 xs (flat xs) := by
  refine ⟨flat_length xs, fun j p hp => ?_⟩
  obtain ⟨hj, rfl⟩ := List.getElem?_eq_some_iff.1 hp
  have e : ((flat xs).drop (j * 3)).take 3 = vals xs[j] := by
    apply List.ext_getElem?
    intro t
    rw [List.getElem?_take]
    split
    · rw [List.getElem?_drop, flat_get xs j t hj (by assumption)]
      simp [List.getD_eq_getElem?_getD, List.getElem?_eq_getElem hj]
    · rw [List.getElem?_eq_none (by simp [vals]; omega)]
  rw [e]
  exact k35_mkM w base ok xs[j]
theorem own_R {w : World} {base : Nat} {v : Value} {xs : List S35} (h : w.ownsRow base 35 3 v xs.length (flat xs)) : Kd.R k35 35 w base (fun _ => True) v xs :=
  ⟨fun _ _ => trivial, flat xs, h, reps_flat w base _ xs⟩
/-- The slice value v reads xs in w. -/
structure Rd (w : World) (v : Value) (xs : List S35) : Prop where
  mk :: (out : ∃ A c, v = .slice A xs.length c ∧ xs.length ≤ c ∧ Kd.C k35 w A xs.length xs)
theorem Rd.below {w w1 : World} {v : Value} {xs : List S35} (h : Rd w v xs) (hb : Below w.heap.size w w1) : Rd w1 v xs := by
  obtain ⟨⟨A, c, rfl, hl, hc⟩⟩ := h
  exact ⟨⟨A, c, rfl, hl, Kd.C_below hc hb⟩⟩
theorem Rd.of_own {w : World} {base : Nat} {v : Value} {xs : List S35} (h : w.ownsRow base 35 3 v xs.length (flat xs)) : Rd w v xs := ⟨Kd.R_reads (own_R h)⟩
theorem Rd.of_R {w : World} {base : Nat} {ok : Nat → Prop} {v : Value} {xs : List S35} (h : Kd.R k35 35 w base ok v xs) : Rd w v xs := ⟨Kd.R_reads h⟩

/-- heat.Cold, whatever comes in. -/
def ColdPost2 (w : World) (l : List S35) (now age : Int) (e : Ending) (w' : World) : Prop :=
  ∃ v, e = .returned (.tuple #[v, .int .i64 (errN (coldB l now age))]) ∧ Rd w' v (coldL l now age) ∧ Below w.heap.size w w'
theorem Rd.nil (w : World) : Rd w (.slice none 0 0) [] := ⟨⟨none, 0, rfl, Nat.le_refl _, ⟨rfl, by simp, fun h => absurd h (by simp)⟩⟩⟩
set_option maxHeartbeats 2000000 in
theorem cold_calls (A0 : Option Addr) (c0 : Nat) (l0 : List S35) (now age : Int) (w : World) (hr0 : Kd.C k35 w A0 l0.length l0) (hc0 : l0.length ≤ c0) (hn : l0.length ≤ 1000) :
    Calls Try.prog 17 #[.slice A0 l0.length c0, .int .i64 now, .int .i64 age] w (ColdPost2 w l0 now age) := by
  cases hm : mayR l0 (fun _ => false)
  · have hcb : coldB l0 now age = false := by rw [coldB, hm]; rfl
    have hcl : coldL l0 now age = [] := by rw [coldL, hcb]; rfl
    unfold ColdPost2
    rw [hcb, hcl]
    have HC := Aside0.mk (may_calls A0 c0 l0 w hr0 hc0 (by omega))
    rw [hm] at HC
    clear hcb hcl hm hr0
    go_enter Try.func17, Try.ntmps17
    go_wp2_with fail
    refine HC.out.mono ?_
    rintro e w1 ⟨rfl, hb⟩
    have HB := Aside0.mk hb
    clear hb
    go_wp2_with fail
    go_ret2
    exact ⟨_, rfl, Rd.nil _, HB.out⟩
  · cases h1 : inB now 2147483647
    · have hcb : coldB l0 now age = false := by rw [coldB, h1, hm]; rfl
      have hcl : coldL l0 now age = [] := by rw [coldL, hcb]; rfl
      unfold ColdPost2
      rw [hcb, hcl]
      have HC := Aside0.mk (may_calls A0 c0 l0 w hr0 hc0 (by omega))
      rw [hm] at HC
      have H1 := Aside0.mk h1
      clear hcb hcl hm hr0 h1
      go_enter Try.func17, Try.ntmps17
      go_wp2_with fail
      refine HC.out.mono ?_
      rintro e w1 ⟨rfl, hb⟩
      have HB := Aside0.mk hb
      clear hb
      go_wp2_with fail
      refine (in_calls _ _ _).mono ?_
      rw [H1.out]
      rintro e w' ⟨rfl, rfl⟩
      go_wp2_with fail
      go_ret2
      exact ⟨_, rfl, Rd.nil _, HB.out⟩
    · cases h2 : inB age 2147483647
      · have hcb : coldB l0 now age = false := by rw [coldB, h1, h2, hm]; rfl
        have hcl : coldL l0 now age = [] := by rw [coldL, hcb]; rfl
        unfold ColdPost2
        rw [hcb, hcl]
        have HC := Aside0.mk (may_calls A0 c0 l0 w hr0 hc0 (by omega))
        rw [hm] at HC
        have H1 := Aside0.mk h1
        have H2 := Aside0.mk h2
        clear hcb hcl hm hr0 h1 h2
        go_enter Try.func17, Try.ntmps17
        go_wp2_with fail
        refine HC.out.mono ?_
        rintro e w1 ⟨rfl, hb⟩
        have HB := Aside0.mk hb
        clear hb
        go_wp2_with fail
        refine (in_calls _ _ _).mono ?_
        rw [H1.out]
        rintro e w' ⟨rfl, rfl⟩
        go_wp2_with fail
        refine (in_calls _ _ _).mono ?_
        rw [H2.out]
        rintro e w' ⟨rfl, rfl⟩
        go_wp2_with fail
        go_ret2
        exact ⟨_, rfl, Rd.nil _, HB.out⟩
      · refine (cold_yes A0 c0 l0 now age w hr0 hc0 hn hm h1 h2).mono ?_
        rintro e w' ⟨v, he, ho, hb⟩
        exact ⟨v, he, Rd.of_own ho, hb⟩

def cutB (x : S35) (most : Int) : S35 := ⟨x.f0, x.f1, if most < x.f2 then most else x.f2⟩
def pickR : List S35 → Int → List S35
  | [], _ => []
  | x :: r, most => if (cutB x most).f2 = 0 then [] else cutB x most :: pickR r (most - (cutB x most).f2)
def pickB (l : List S35) (now age most : Int) : Bool := coldB l now age && decide (0 ≤ most)
def pickL (l : List S35) (now age most : Int) : List S35 := if pickB l now age most then pickR (coldL l now age) most else []
def PickPost (w : World) (l : List S35) (now age most : Int) (e : Ending) (w' : World) : Prop :=
  ∃ v, e = .returned (.tuple #[v, .int .i64 (errN (pickB l now age most))]) ∧ Rd w' v (pickL l now age most) ∧ Below w.heap.size w w'

/-- What is cold has blocks, in bounds. -/
theorem cold_bounds {l : List S35} {now age : Int} {x : S35} (h : x ∈ coldL l now age) : 0 < x.f2 ∧ x.f2 ≤ 2147483647 := by
  unfold coldL at h
  split at h
  · rename_i hb
    have hx := (HeapPure.sortL_spec ahd_ord _).1.subset h
    obtain ⟨h1, h2⟩ := List.mem_filter.1 hx
    simp only [coldB, Bool.and_eq_true] at hb
    have := mayR_ok l _ hb.1.1 x h1
    simp only [okH, isCold, Bool.and_eq_true, decide_eq_true_eq] at this h2
    omega
  · simp at h
theorem cold_length (l : List S35) (now age : Int) : (coldL l now age).length ≤ l.length := by
  unfold coldL
  split
  · rw [(HeapPure.sortL_spec ahd_ord _).1.length_eq]
    exact List.length_filter_le _ _
  · simp
theorem size_box (w : World) (o : Obj) : (w.alloc o).heap.size = w.heap.size + 1 := by simp
set_option maxHeartbeats 4000000 in
set_option maxRecDepth 100000 in
theorem pick_calls (A0 : Option Addr) (c0 : Nat) (l0 : List S35) (now age most : Int) (w : World) (hr0 : Kd.C k35 w A0 l0.length l0) (hc0 : l0.length ≤ c0) (hn : l0.length ≤ 1000) (hmost : most ≤ 9223372036854775807) :
    Calls Try.prog 11 #[.slice A0 l0.length c0, .int .i64 now, .int .i64 age, .int .i64 most] w (PickPost w l0 now age most) := by
  have HC := Aside0.mk (cold_calls A0 c0 l0 now age w hr0 hc0 hn)
  clear hr0
  unfold ColdPost2 at HC
  cases hcb : coldB l0 now age
  · have hpb : pickB l0 now age most = false := by rw [pickB, hcb]; rfl
    have hpl : pickL l0 now age most = [] := by rw [pickL, hpb]; rfl
    unfold PickPost
    rw [hpb, hpl]
    rw [hcb] at HC
    clear hpb hpl hcb
    go_enter Try.func11, Try.ntmps11
    go_wp2_with fail
    refine HC.out.mono ?_
    rintro e w1 ⟨v, rfl, hv, hb⟩
    have HB := Aside0.mk hb
    clear hb
    go_wp2_with fail
    go_ret2
    exact ⟨_, rfl, Rd.nil _, HB.out⟩
  · by_cases h0 : 0 ≤ most
    · have hpb : pickB l0 now age most = true := by rw [pickB, hcb, decide_eq_true h0]; rfl
      have hpl : pickL l0 now age most = pickR (coldL l0 now age) most := by rw [pickL, hpb]; rfl
      unfold PickPost
      rw [hpb, hpl]
      rw [hcb] at HC
      have hbd : ∀ x ∈ coldL l0 now age, 0 < x.f2 ∧ x.f2 ≤ 2147483647 := fun x hx => cold_bounds hx
      have hln := cold_length l0 now age
      generalize coldL l0 now age = cs at *
      have HBD := Aside0.mk hbd
      clear hpb hpl hcb hbd
      have h0b : decide (most < 0) = false := by simpa using h0
      go_enter Try.func11, Try.ntmps11
      go_wp2_with fail
      refine HC.out.mono ?_
      rintro e w1 ⟨v, rfl, ⟨A, c, rfl, hlc, hv⟩, hb⟩
      have HB := Aside0.mk hb
      have HV := Aside0.mk hv
      clear hb hv HC
      go_wp2_with fail
      go_loopw [3, 12, 30] (fun m vo i wr => ∃ (k : Nat) (mm : Int) (out : List S35), i = .int .i64 k ∧ k ≤ cs.length ∧ out.length ≤ k ∧ m = .int .i64 mm ∧ 0 ≤ mm ∧ mm ≤ 9223372036854775807 ∧ Aside0 (wr.ownsRow w1.heap.size 35 3 vo out.length (flat out)) ∧ Aside0 (Below w1.heap.size w1 wr) ∧ Aside0 (out ++ pickR (cs.drop k) mm = pickR cs most)) (fun _ _ i _ => cs.length - (intOf i).toNat)
      case atStart => exact ⟨0, most, [], rfl, Nat.zero_le _, Nat.le_refl _, rfl, h0, hmost, ⟨⟨rfl, .inl ⟨rfl, rfl⟩⟩⟩, ⟨Below.refl _ _⟩, ⟨rfl⟩⟩
      case round =>
        obtain ⟨k, mm, out, rfl, hk, hok, rfl, hm0, hm1, HO, HW, HE⟩ := hrel
        by_cases hlt : k < cs.length
        · have hx := HBD.out (rd_T35 cs k) (by simp [rd_T35, List.getD_eq_getElem?_getD, List.getElem?_eq_getElem hlt])
          obtain ⟨ad, rfl, hx0, hx1, hx2⟩ := at_T35 HV.out k (by omega) (by omega)
          replace hx0 := (HW.out.cell (World.block_lt_of_cell? w1 _ hx0)).trans hx0
          replace hx1 := (HW.out.cell (World.block_lt_of_cell? w1 _ hx1)).trans hx1
          replace hx2 := (HW.out.cell (World.block_lt_of_cell? w1 _ hx2)).trans hx2
          rw [Int.toNat_natCast] at hx0 hx1 hx2
          have he := HE.out
          rw [drop_cons hlt, pickR] at he
          generalize rd_T35 cs k = x at *
          obtain ⟨hxa, hxb⟩ := hx
          have HE := Aside0.mk he
          clear he
          by_cases hmx : mm < x.f2
          · have hcut : (cutB x mm) = ⟨x.f0, x.f1, mm⟩ := by rw [cutB, if_pos hmx]
            rw [hcut] at HE
            clear hcut
            by_cases hz : mm = 0
            · subst hz
              have he : pickR cs most = out := by
                have h := HE.out
                simp only [if_true, List.append_nil] at h
                exact h.symm
              have HE2 := Aside0.mk he
              clear he
              go_wp2_with fail
              go_ret2
              exact ⟨u12, rfl, (by rw [HE2.out]; exact Rd.of_own (HO.out.alloc _)), below_then HB.out HB.out.size (HW.out.alloc HW.out.size _)⟩
            · have hzb : (mm == 0) = false := by simpa using hz
              have he := HE.out
              rw [if_neg hz] at he
              have HE := Aside0.mk he
              clear he
              obtain ⟨y, hy⟩ : ∃ y : S35, y = ⟨x.f0, x.f1, mm⟩ := ⟨_, rfl⟩
              have hv : vals y = [.int .i64 x.f0, .int .i64 x.f1, .int .i64 mm] := by rw [hy]; rfl
              have HY2 : Aside0 (y.f2 = mm) := ⟨by rw [hy]⟩
              rw [← hy] at HE
              have HVY := Aside0.mk hv
              clear hv hy
              go_wp2_with (at_builtin; refine print_append_cells (w0 := w1) w1.heap.size rfl (.tmp 46) (.tmp 48) 22 35 _ 3 24 rfl Try.underlying22 info35 rfl (by decide) (by decide) u12 out.length (flat out) [.int .i64 x.f0, .int .i64 x.f1, .int .i64 mm] rfl (by rw [size_box]; rfl) rfl (HVY.out ▸ vals_one y) (HO.out.alloc _) (HW.out.alloc HW.out.size _) (by have := HW.out.size; simp; omega) (by omega) ?_; intro v3 w3 hown3 hb3 hg3 hat3; have HO3 := Aside0.mk hown3; have HB3 := Aside0.mk hb3; clear hown3 hb3 hg3 hat3)
              go_roundw
              case rel =>
                refine ⟨k + 1, mm - mm, out ++ [y], by go_num, by omega, by simp; omega, by simp, by omega, by omega, ⟨?_⟩, HB3, ⟨?_⟩⟩
                · rw [List.length_append, flat_app]
                  have h := HO3.out
                  rw [← HVY.out] at h
                  exact h
                · rw [← HE.out, List.append_assoc, HY2.out]
                  rfl
              case measure => simp [intOf]; omega
          · have hcut : (cutB x mm) = ⟨x.f0, x.f1, x.f2⟩ := by rw [cutB, if_neg hmx]
            rw [hcut] at HE
            clear hcut
            have hz : ¬ x.f2 = 0 := by omega
            have hzb : (x.f2 == 0) = false := by simpa using hz
            have he := HE.out
            rw [if_neg hz] at he
            have HE := Aside0.mk he
            clear he
            obtain ⟨y, hy⟩ : ∃ y : S35, y = ⟨x.f0, x.f1, x.f2⟩ := ⟨_, rfl⟩
            have hv : vals y = [.int .i64 x.f0, .int .i64 x.f1, .int .i64 x.f2] := by rw [hy]; rfl
            have HY2 : Aside0 (y.f2 = x.f2) := ⟨by rw [hy]⟩
            rw [← hy] at HE
            have HVY := Aside0.mk hv
            clear hv hy
            go_wp2_with (at_builtin; refine print_append_cells (w0 := w1) w1.heap.size rfl (.tmp 46) (.tmp 48) 22 35 _ 3 24 rfl Try.underlying22 info35 rfl (by decide) (by decide) u12 out.length (flat out) [.int .i64 x.f0, .int .i64 x.f1, .int .i64 x.f2] rfl (by rw [size_box]; rfl) rfl (HVY.out ▸ vals_one y) (HO.out.alloc _) (HW.out.alloc HW.out.size _) (by have := HW.out.size; simp; omega) (by omega) ?_; intro v3 w3 hown3 hb3 hg3 hat3; have HO3 := Aside0.mk hown3; have HB3 := Aside0.mk hb3; clear hown3 hb3 hg3 hat3)
            go_roundw
            case rel =>
              refine ⟨k + 1, mm - x.f2, out ++ [y], by go_num, by omega, by simp; omega, rfl, by omega, by omega, ⟨?_⟩, HB3, ⟨?_⟩⟩
              · rw [List.length_append, flat_app]
                have h := HO3.out
                rw [← HVY.out] at h
                exact h
              · rw [← HE.out, List.append_assoc, HY2.out]
                rfl
            case measure => simp [intOf]; omega
        · go_wp2_with fail
          go_ret2
          have he := HE.out
          rw [List.drop_of_length_le (by omega), pickR, List.append_nil] at he
          exact ⟨u12, rfl, Rd.of_own (he ▸ HO.out), below_then HB.out HB.out.size HW.out⟩
    · have hpb : pickB l0 now age most = false := by rw [pickB, decide_eq_false h0, Bool.and_false]
      have hpl : pickL l0 now age most = [] := by rw [pickL, hpb]; rfl
      unfold PickPost
      rw [hpb, hpl]
      rw [hcb] at HC
      clear hpb hpl hcb
      go_enter Try.func11, Try.ntmps11
      go_wp2_with fail
      refine HC.out.mono ?_
      rintro e w1 ⟨v, rfl, hv, hb⟩
      have HB := Aside0.mk hb
      clear hb
      go_wp2_with fail
      go_ret2
      exact ⟨_, rfl, Rd.nil _, HB.out⟩
end Go.Proofs.Ytjpnbhcoagnpjaa
