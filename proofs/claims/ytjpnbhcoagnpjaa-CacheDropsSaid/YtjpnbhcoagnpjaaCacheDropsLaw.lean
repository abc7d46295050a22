/- CacheDrops walked. -/
import Derived.Test.YtjpnbhcoagnpjaaCacheSame
import Derived.Test.YtjpnbhcoagnpjaaCachePure
namespace Go.Proofs.Ytjpnbhcoagnpjaa
namespace Ca
open Go.RowKit Go.Proofs.YtjpnbhcoagnpjaaW.PrintWords Go.Proofs.YtjpnbhcoagnpjaaW.PrintLast Go.Proofs.YtjpnbhcoagnpjaaW.PrintMore
open Go.Proofs.Ytjpnbhcoagnpjaa.PCacheTells
set_option linter.unusedVariables false
set_option linter.unusedSimpArgs false

theorem few_wf {l : List S56} (h : ∀ x ∈ l, (Lit.int .i64 x.f0).wf = true) : ∀ x ∈ fewL l, (Lit.int .i64 x.f0).wf = true := fun x hx => h x (List.mem_of_mem_take hx)
theorem few_len (l : List S56) : (fewL l).length ≤ 257 := by
  rw [fewL_len]
  exact (fewN_le _).2
theorem set_wf {l : List S56} (h : ∀ x ∈ l, (Lit.int .i64 x.f0).wf = true) (j : Nat) {y : S56} (hy : (Lit.int .i64 y.f0).wf = true) : ∀ x ∈ l.set j y, (Lit.int .i64 x.f0).wf = true := fun x hx => by
  rcases List.mem_or_eq_of_mem_set hx with h1 | h1
  · exact h x h1
  · rw [h1]; exact hy
theorem eqL_self (x : S56) : eqL x x = true := by simp [eqL]
/-- A slice of lines whose length is known by another name. -/
theorem Rl.named {w : World} {v : Value} {xs : List S56} {n : Nat} (h : Rl w v xs) (hn : xs.length = n) : ∃ A c, v = .slice A n c ∧ n ≤ c ∧ Kd.C k56 w A n xs := by
  subst hn
  exact h.out
set_option maxHeartbeats 4000000 in
set_option maxRecDepth 100000 in
theorem drops_err (A : Option Addr) (n c : Nat) (m : List S56) (s t e0 : Int) (w : World) (hq : ∀ W : World, Calls Try.prog 18 #[.slice A n c] W fun e w' => e = .returned (.slice A m.length c) ∧ w' = W)
    (he : findP m s = (0, e0)) (hne : (e0 != 0) = true) (hne2 : (e0 == 0) = false) (h : Kd.C k56 w A m.length m) (hc : m.length ≤ c) (hn : m.length ≤ 1000000) (hwf : ∀ x ∈ m, (Lit.int .i64 x.f0).wf = true) :
    Calls Try.prog 9 #[.slice A n c, .int .i64 s, .int .i64 t] w fun e w' => e = .returned (.bool true) ∧ Below w.heap.size w w' := by
  have HF := Aside0.mk h
  have HQ := Aside0.mk hq
  have H1 := Aside0.mk (fun (W : World) (hC : Kd.C k56 W A m.length m) => find_calls A c m s W hC hc hn hwf)
  have H2 := Aside0.mk (fun (W : World) (hC : Kd.C k56 W A m.length m) => drop_calls A c m s W hC hc hn hwf)
  have hp : dropP m s = ([], e0) := by
    rw [dropP, he]
    simp only
    rw [if_neg (by simpa using hne)]
  unfold DropPost at H2
  rw [hp] at H2
  rw [he] at H1
  have hee : (e0 == e0) = true := by simp
  clear h hwf he hp hq
  go_enter Try.func9, Try.ntmps9
  go_wp2_with fail
  refine (HQ.out _).mono ?_
  rintro e w0 ⟨rfl, rfl⟩
  go_wp2_with fail
  refine (H1.out _ HF.out).mono ?_
  rintro e w1 ⟨rfl, hb⟩
  have HB := Aside0.mk hb
  clear hb HQ
  go_wp2_with fail
  refine (H2.out _ (Kd.C_below HF.out HB.out)).mono ?_
  rintro e w2 ⟨v, rfl, hv, hb⟩
  replace HB := Aside0.mk (below_then HB.out HB.out.size hb)
  obtain ⟨A2, c2, rfl, hc2, hr2⟩ := hv.out
  clear hb hv hr2
  go_wp2_with fail
  refine (awake_calls _).mono ?_
  rintro e w8 ⟨rfl, hb⟩
  replace HB := Aside0.mk (below_then HB.out HB.out.size hb)
  clear hb
  go_wp2_with fail
  go_ret
  exact ⟨rfl, HB.out⟩
set_option maxHeartbeats 4000000 in
set_option maxRecDepth 100000 in
theorem drops_busy (A : Option Addr) (n c : Nat) (m : List S56) (s t : Int) (j : Nat) (w : World) (hq : ∀ W : World, Calls Try.prog 18 #[.slice A n c] W fun e w' => e = .returned (.slice A m.length c) ∧ w' = W)
    (he : findP m s = ((j : Int), 0)) (hp : 0 < (rd_T56 m j).f2) (h : Kd.C k56 w A m.length m) (hc : m.length ≤ c) (hn : m.length ≤ 1000000) (hwf : ∀ x ∈ m, (Lit.int .i64 x.f0).wf = true) :
    Calls Try.prog 9 #[.slice A n c, .int .i64 s, .int .i64 t] w fun e w' => e = .returned (.bool true) ∧ Below w.heap.size w w' := by
  have HF := Aside0.mk h
  have HQ := Aside0.mk hq
  have H1 := Aside0.mk (fun (W : World) (hC : Kd.C k56 W A m.length m) => find_calls A c m s W hC hc hn hwf)
  have H2 := Aside0.mk (fun (W : World) (hC : Kd.C k56 W A m.length m) => drop_calls A c m s W hC hc hn hwf)
  have hp : dropP m s = ([], 18) := by
    rw [dropP, he]
    simp only [if_true]
    rw [if_pos hp]
  unfold DropPost at H2
  rw [hp] at H2
  rw [he] at H1
  clear h hwf he hp hq
  go_enter Try.func9, Try.ntmps9
  go_wp2_with fail
  refine (HQ.out _).mono ?_
  rintro e w0 ⟨rfl, rfl⟩
  go_wp2_with fail
  refine (H1.out _ HF.out).mono ?_
  rintro e w1 ⟨rfl, hb⟩
  have HB := Aside0.mk hb
  clear hb HQ
  go_wp2_with fail
  refine (H2.out _ (Kd.C_below HF.out HB.out)).mono ?_
  rintro e w2 ⟨v, rfl, hv, hb⟩
  replace HB := Aside0.mk (below_then HB.out HB.out.size hb)
  obtain ⟨A2, c2, rfl, hc2, hr2⟩ := hv.out
  clear hb hv hr2
  go_wp2_with fail
  refine (awake_calls _).mono ?_
  rintro e w8 ⟨rfl, hb⟩
  replace HB := Aside0.mk (below_then HB.out HB.out.size hb)
  clear hb
  go_wp2_with fail
  go_ret
  exact ⟨rfl, HB.out⟩
set_option maxHeartbeats 8000000 in
set_option maxRecDepth 100000 in
theorem drops_main (A : Option Addr) (n c : Nat) (m : List S56) (s t : Int) (j : Nat) (w : World) (hq : ∀ W : World, Calls Try.prog 18 #[.slice A n c] W fun e w' => e = .returned (.slice A m.length c) ∧ w' = W)
    (hj : j < m.length) (hm : mayB m = true) (hs : 0 ≤ s) (hws : (Lit.int .i64 s).wf = true) (hf : (rd_T56 m j).f0 = s) (hp : ¬ 0 < (rd_T56 m j).f2) (h : Kd.C k56 w A m.length m) (hc : m.length ≤ c) (hn : m.length ≤ 1000000) (hwf : ∀ x ∈ m, (Lit.int .i64 x.f0).wf = true) :
    Calls Try.prog 9 #[.slice A n c, .int .i64 s, .int .i64 t] w fun e w' => e = .returned (.bool true) ∧ Below w.heap.size w w' := by
  obtain ⟨p1, p2, ⟨v, hv1, hv2, hv3⟩, p4, p5⟩ := drops_pure m s t j hj hm hs hf hp
  have he : findP m s = ((j : Int), 0) := ((mayB_iff m).1 hm).find hj hs hf
  have hwX := set_wf hwf j (y := noneL) rfl
  have hlX : (m.set j noneL).length = m.length := List.length_set
  have hrX : ∀ k : Nat, k ≠ j → rd_T56 (m.set j noneL) k = rd_T56 m k := fun k hk => by rw [rd_set hj, if_neg hk]
  generalize m.set j noneL = X at *
  have hnX : X.length ≤ 1000000 := by omega
  have HF := Aside0.mk h
  have HQ := Aside0.mk hq
  have H1 := Aside0.mk (fun (W : World) (hC : Kd.C k56 W A m.length m) => find_calls A c m s W hC hc hn hwf)
  have H2 := Aside0.mk (fun (W : World) (hC : Kd.C k56 W A m.length m) => drop_calls A c m s W hC hc hn hwf)
  have H3 : Aside0 (∀ (W : World) (A3 : Option Addr) (c3 : Nat) (h3 : m.length ≤ c3) (hC : Kd.C k56 W A3 m.length X), Calls Try.prog 19 #[.slice A3 m.length c3, .int .i64 s] W fun e w' => e = .returned (.tuple #[.int .i64 (findP X s).1, .int .i64 (findP X s).2]) ∧ Below W.heap.size W w') :=
    ⟨fun W A3 c3 h3 hC => by rw [← hlX] at hC h3 ⊢; exact find_calls A3 c3 X s W hC h3 hnX hwX⟩
  have H4 : Aside0 (∀ (W : World) (A3 : Option Addr) (c3 : Nat) (h3 : m.length ≤ c3) (hC : Kd.C k56 W A3 m.length X), Calls Try.prog 21 #[.slice A3 m.length c3] W fun e w' => e = .returned (.tuple #[.int .i64 (victimP X).1, .int .i64 (victimP X).2]) ∧ Below W.heap.size W w') :=
    ⟨fun W A3 c3 h3 hC => by rw [← hlX] at hC h3 ⊢; exact victim_calls A3 c3 X W hC h3 hnX hwX⟩
  have H5 : Aside0 (∀ (W : World) (A3 : Option Addr) (c3 : Nat) (h3 : m.length ≤ c3) (hC : Kd.C k56 W A3 m.length X), Calls Try.prog 28 #[.slice A3 m.length c3, .int .i64 j, .int .i64 s, .int .i64 t] W (PutPost X j s t W)) :=
    ⟨fun W A3 c3 h3 hC => by rw [← hlX] at hC h3 ⊢; exact put_calls A3 c3 X j s t W hC h3 hnX hwX⟩
  unfold DropPost at H2
  unfold PutPost at H5
  rw [he] at H1
  rw [p1] at H2
  rw [p2] at H3
  rw [hv2] at H4
  simp only at H1 H2 H3 H4
  have HWX := Aside0.mk hwX
  have HLX := Aside0.mk hlX
  have HRX := Aside0.mk hrX
  have HV3 := Aside0.mk hv3
  have HP4 := Aside0.mk p4
  have HP5 := Aside0.mk p5
  have HWS := Aside0.mk hws
  have d0 : decide ((m.length : Int) ≤ (j : Int)) = false := decide_eq_false (by omega)
  have dv : decide ((v : Int) ≤ (j : Int)) = true := decide_eq_true (by omega)
  have hvm : v < m.length := by omega
  clear h hwf he hq p1 p2 p4 p5 hm hf hp hwX hlX hrX hv2 hv3 hs hws hc hnX
  go_enter Try.func9, Try.ntmps9
  go_wp2_with fail
  refine (HQ.out _).mono ?_
  rintro e w0 ⟨rfl, rfl⟩
  go_wp2_with fail
  refine (H1.out _ HF.out).mono ?_
  rintro e w1 ⟨rfl, hb⟩
  have HB := Aside0.mk hb
  replace HF := Aside0.mk (Kd.C_below HF.out hb)
  clear hb HQ
  go_wp2_with fail
  refine (H2.out _ HF.out).mono ?_
  rintro e w2 ⟨v0, rfl, hv, hb⟩
  replace HB := Aside0.mk (below_then HB.out HB.out.size hb)
  replace HF := Aside0.mk (Kd.C_below HF.out hb)
  obtain ⟨A2, c2, rfl, hc2, hr2⟩ := hv.named HLX.out
  have HC2 := Aside0.mk hc2
  have HR := Aside0.mk hr2
  clear hb hv hr2 hc2 H1 H2
  go_wp2_with fail
  refine (H3.out _ _ _ HC2.out HR.out).mono ?_
  rintro e w3 ⟨rfl, hb⟩
  replace HB := Aside0.mk (below_then HB.out HB.out.size hb)
  replace HF := Aside0.mk (Kd.C_below HF.out hb)
  replace HR := Aside0.mk (Kd.C_below HR.out hb)
  clear hb H3
  go_wp2_with fail
  go_loopw [13] (fun i wr => ∃ k : Nat, i = .int .i64 k ∧ k ≤ m.length ∧ Drawn0 w3 wr) (fun i _ => m.length - (intOf i).toNat)
  case atStart => exact ⟨0, rfl, Nat.zero_le _, Drawn0.refl _⟩
  case round =>
    obtain ⟨k, rfl, hk, ⟨nd, rfl⟩⟩ := hrel
    by_cases hlt : k < m.length
    · by_cases hkj : k = j
      · have dk : ((k : Int) != (j : Int)) = false := by rw [hkj]; simp
        clear hkj
        go_wp2_with fail
        go_quiet (fail)
        go_wp2_with fail
        go_roundw
        case rel => exact ⟨k + 1, by go_num, by omega, ⟨⟨_, rfl⟩⟩⟩
        case measure => simp [intOf]; omega
      · have dk : ((k : Int) != (j : Int)) = true := by simp; omega
        obtain ⟨ad, rfl, hx0, hx1, hx2⟩ := at_T56 HF.out k (by omega) (by omega)
        obtain ⟨ad1, rfl, hy0, hy1, hy2⟩ := at_T56 HR.out k (by omega) (by omega)
        rw [Int.toNat_natCast] at hx0 hx1 hx2 hy0 hy1 hy2
        rw [HRX.out k hkj] at hy0 hy1 hy2
        generalize rd_T56 m k = Y at *
        have hne := fun W => neq56 W Y Y
        rw [eqL_self] at hne
        simp only [Bool.not_true] at hne
        have hk0 : (0 : Int) ≤ (k : Int) := by omega
        have hk1 : (k : Int) < (m.length : Int) := by omega
        clear hkj
        go_wp2_with fail
        go_quiet (fail)
        go_wp2_with fail
        go_roundw
        case rel => exact ⟨k + 1, by go_num, by omega, ⟨⟨_, rfl⟩⟩⟩
        case measure => simp [intOf]; omega
    · obtain rfl : k = m.length := by omega
      replace HB := Aside0.mk (pw_below_drewN HB.out nd)
      replace HR := Aside0.mk (Kd.C_below HR.out (pw_below_drewN (Below.refl _ _) nd))
      clear HF hlt
      generalize w3.drewN nd = w5 at *
      go_wp2_with fail
      refine (H4.out _ _ _ HC2.out HR.out).mono ?_
      rintro e w6 ⟨rfl, hb⟩
      replace HB := Aside0.mk (below_then HB.out HB.out.size hb)
      replace HR := Aside0.mk (Kd.C_below HR.out hb)
      clear hb H4
      cases ht : inB t 2147483647
      · have hp := HP4.out ht
        rw [hp] at H5
        have htt : t < 0 ∨ (¬ t < 0 ∧ 2147483647 < t) := by simp [inB] at ht; omega
        clear hp ht
        go_wp2_with fail
        refine (H5.out _ _ _ HC2.out HR.out).mono ?_
        rintro e w7 ⟨v5, rfl, hv5, hb⟩
        replace HB := Aside0.mk (below_then HB.out HB.out.size hb)
        obtain ⟨A5, c5, rfl, hc5, hr5⟩ := hv5.out
        have HF6 := Aside0.mk (find_calls A5 c5 [] s w7 hr5 hc5 (by simp) (by simp))
        rw [show findP [] s = (0, 1) from rfl] at HF6
        clear hb hv5 hr5 hc5 H5
        go_wp2_with fail
        refine HF6.out.mono ?_
        rintro e w8 ⟨rfl, hb⟩
        replace HB := Aside0.mk (below_then HB.out HB.out.size hb)
        clear hb HF6
        rcases htt with h1 | ⟨h1, h2⟩
        · have d1 : decide (t < 0) = true := decide_eq_true h1
          clear h1
          go_wp2_with fail
          refine (awake_calls _).mono ?_
          rintro e w9 ⟨rfl, hb⟩
          replace HB := Aside0.mk (below_then HB.out HB.out.size hb)
          clear hb
          go_wp2_with fail
          go_ret
          exact ⟨rfl, HB.out⟩
        · have d1 : decide (t < 0) = false := decide_eq_false (by omega)
          have d2 : decide (2147483647 < t) = true := decide_eq_true (by omega)
          clear h1 h2
          go_wp2_with fail
          refine (awake_calls _).mono ?_
          rintro e w9 ⟨rfl, hb⟩
          replace HB := Aside0.mk (below_then HB.out HB.out.size hb)
          clear hb
          go_wp2_with fail
          go_ret
          exact ⟨rfl, HB.out⟩
      · obtain ⟨hp, hf⟩ := HP5.out ht
        rw [hp] at H5
        have d1 : decide (t < 0) = false := by simp [inB] at ht; simp; omega
        have d2 : decide (2147483647 < t) = false := by simp [inB] at ht; simp; omega
        have hwY := set_wf HWX.out j (y := ⟨s, t, 0⟩) HWS.out
        have hlY : (X.set j ⟨s, t, 0⟩).length = m.length := by rw [List.length_set]; exact HLX.out
        generalize X.set j ⟨s, t, 0⟩ = Y at *
        have HFY := Aside0.mk hf
        have HLY := Aside0.mk hlY
        have HWY := Aside0.mk hwY
        clear hp ht hf hlY hwY
        go_wp2_with fail
        refine (H5.out _ _ _ HC2.out HR.out).mono ?_
        rintro e w7 ⟨v5, rfl, hv5, hb⟩
        replace HB := Aside0.mk (below_then HB.out HB.out.size hb)
        replace HR := Aside0.mk (Kd.C_below HR.out hb)
        obtain ⟨A5, c5, rfl, hc5, hr5⟩ := hv5.out
        have HF6 := Aside0.mk (find_calls A5 c5 Y s w7 hr5 hc5 (by rw [HLY.out]; exact hn) HWY.out)
        rw [HFY.out] at HF6
        clear hb hv5 hr5 hc5 H5
        go_wp2_with fail
        refine HF6.out.mono ?_
        rintro e w8 ⟨rfl, hb⟩
        replace HB := Aside0.mk (below_then HB.out HB.out.size hb)
        replace HR := Aside0.mk (Kd.C_below HR.out hb)
        clear hb HF6
        obtain ⟨ad1, rfl, hy0, hy1, hy2⟩ := at_T56 HR.out v (by omega) (by omega)
        rw [Int.toNat_natCast, HV3.out] at hy0 hy1 hy2
        simp only [noneL] at hy0 hy1 hy2
        have hk0 : (0 : Int) ≤ (v : Int) := by omega
        have hk1 : (v : Int) < (m.length : Int) := by omega
        go_wp2_with fail
        refine (awake_calls _).mono ?_
        rintro e w9 ⟨rfl, hb⟩
        replace HB := Aside0.mk (below_then HB.out HB.out.size hb)
        clear hb
        go_wp2_with fail
        go_ret
        exact ⟨rfl, HB.out⟩
theorem drops_try (A : Option Addr) (c : Nat) (l : List S56) (s t : Int) (w : World) (hws : (Lit.int .i64 s).wf = true) (h : Kd.C k56 w A l.length l) (hc : l.length ≤ c) (hwf : ∀ x ∈ l, (Lit.int .i64 x.f0).wf = true) :
    Calls Try.prog 9 #[.slice A l.length c, .int .i64 s, .int .i64 t] w fun e w' => e = .returned (.bool true) ∧ Below w.heap.size w w' := by
  have hN : (fewL l).length ≤ c := by rw [fewL_len]; have := (fewN_le l.length).1; omega
  have H41 := few_len l
  have HQ : ∀ W : World, Calls Try.prog 18 #[.slice A l.length c] W fun e w' => e = .returned (.slice A (fewL l).length c) ∧ w' = W := fun W => by rw [fewL_len]; exact few_calls A l.length c hc W
  rcases findP_cases (fewL l) s with ⟨he, _⟩ | ⟨he, _⟩ | ⟨j, hj, he, hm, hs, _, hf⟩
  · exact drops_err A _ c _ s t 1 w HQ he rfl rfl (few_C h) hN (by omega) (few_wf hwf)
  · exact drops_err A _ c _ s t 6 w HQ he rfl rfl (few_C h) hN (by omega) (few_wf hwf)
  · by_cases hp : 0 < (rd_T56 (fewL l) j).f2
    · exact drops_busy A _ c _ s t j w HQ he hp (few_C h) hN (by omega) (few_wf hwf)
    · exact drops_main A _ c _ s t j w HQ hj hm hs hws hf hp (few_C h) hN (by omega) (few_wf hwf)
end Ca
end Go.Proofs.Ytjpnbhcoagnpjaa
