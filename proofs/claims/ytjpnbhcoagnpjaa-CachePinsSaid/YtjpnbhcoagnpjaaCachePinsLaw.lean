/- CachePins walked. -/
import Derived.Test.YtjpnbhcoagnpjaaCacheSame
import Derived.Test.YtjpnbhcoagnpjaaCachePure
namespace Go.Proofs.Ytjpnbhcoagnpjaa
namespace Ca
open Go.RowKit Go.Proofs.YtjpnbhcoagnpjaaW.PrintWords Go.Proofs.YtjpnbhcoagnpjaaW.PrintLast Go.Proofs.YtjpnbhcoagnpjaaW.PrintMore
open Go.Proofs.Ytjpnbhcoagnpjaa.PCacheTells
set_option linter.unusedVariables false
set_option linter.unusedSimpArgs false

theorem few_wf {l : List S56} (h : ∀ x ∈ l, (Lit.int .i64 x.f0).wf = true) : ∀ x ∈ fewL l, (Lit.int .i64 x.f0).wf = true := fun x hx => h x (List.mem_of_mem_take hx)
theorem few_len (l : List S56) : (fewL l).length ≤ 257 := by
  rw [fewL_len]
  exact (fewN_le _).2
theorem set_wf {l : List S56} (h : ∀ x ∈ l, (Lit.int .i64 x.f0).wf = true) (j : Nat) {y : S56} (hy : (Lit.int .i64 y.f0).wf = true) : ∀ x ∈ l.set j y, (Lit.int .i64 x.f0).wf = true := fun x hx => by
  rcases List.mem_or_eq_of_mem_set hx with h1 | h1
  · exact h x h1
  · rw [h1]; exact hy
set_option maxHeartbeats 4000000 in
set_option maxRecDepth 100000 in
theorem pins_err (A : Option Addr) (n c : Nat) (m : List S56) (s b e0 : Int) (w : World) (hq : ∀ W : World, Calls Try.prog 18 #[.slice A n c] W fun e w' => e = .returned (.slice A m.length c) ∧ w' = W)
    (he : findP m s = (0, e0)) (hne : (e0 != 0) = true) (hne2 : (e0 == 0) = false) (h : Kd.C k56 w A m.length m) (hc : m.length ≤ c) (hn : m.length ≤ 1000000) (hwf : ∀ x ∈ m, (Lit.int .i64 x.f0).wf = true) :
    Calls Try.prog 8 #[.slice A n c, .int .i64 s, .int .i64 b] w fun e w' => e = .returned (.bool true) ∧ Below w.heap.size w w' := by
  have HF := Aside0.mk h
  have HQ := Aside0.mk hq
  have H1 := Aside0.mk (fun (W : World) (hC : Kd.C k56 W A m.length m) => find_calls A c m s W hC hc hn hwf)
  have H2 := Aside0.mk (fun (W : World) (hC : Kd.C k56 W A m.length m) => pin_calls A c m s b W hC hc hn hwf)
  have hp : pinP m s b = ([], e0) := by
    rw [pinP, he]
    simp only
    rw [if_neg (by simpa using hne)]
  unfold PinPost at H2
  rw [hp] at H2
  rw [he] at H1
  have hee : (e0 == e0) = true := by simp
  clear h hwf he hp hq
  go_enter Try.func8, Try.ntmps8
  go_wp2_with fail
  refine (HQ.out _).mono ?_
  rintro e w0 ⟨rfl, rfl⟩
  go_wp2_with fail
  refine (H1.out _ HF.out).mono ?_
  rintro e w1 ⟨rfl, hb⟩
  have HB := Aside0.mk hb
  clear hb HQ
  go_wp2_with fail
  refine (H2.out _ (Kd.C_below HF.out HB.out)).mono ?_
  rintro e w2 ⟨v, rfl, hv, hb⟩
  replace HB := Aside0.mk (below_then HB.out HB.out.size hb)
  obtain ⟨A2, c2, rfl, hc2, hr2⟩ := hv.out
  clear hb hv hr2
  go_wp2_with fail
  refine (awake_calls _).mono ?_
  rintro e w8 ⟨rfl, hb⟩
  replace HB := Aside0.mk (below_then HB.out HB.out.size hb)
  clear hb
  go_wp2_with fail
  go_ret
  exact ⟨rfl, HB.out⟩
set_option maxHeartbeats 4000000 in
set_option maxRecDepth 100000 in
theorem pins_small (A : Option Addr) (n c : Nat) (m : List S56) (s b : Int) (j : Nat) (w : World) (hq : ∀ W : World, Calls Try.prog 18 #[.slice A n c] W fun e w' => e = .returned (.slice A m.length c) ∧ w' = W)
    (he : findP m s = ((j : Int), 0)) (hsm : (pinP m s b).2 ≠ 0 ∨ b < 1) (h : Kd.C k56 w A m.length m) (hc : m.length ≤ c) (hn : m.length ≤ 1000000) (hwf : ∀ x ∈ m, (Lit.int .i64 x.f0).wf = true) :
    Calls Try.prog 8 #[.slice A n c, .int .i64 s, .int .i64 b] w fun e w' => e = .returned (.bool true) ∧ Below w.heap.size w w' := by
  have HF := Aside0.mk h
  have HQ := Aside0.mk hq
  have H1 := Aside0.mk (fun (W : World) (hC : Kd.C k56 W A m.length m) => find_calls A c m s W hC hc hn hwf)
  have H2 := Aside0.mk (fun (W : World) (hC : Kd.C k56 W A m.length m) => pin_calls A c m s b W hC hc hn hwf)
  unfold PinPost at H2
  rw [he] at H1
  generalize pinP m s b = pp at *
  obtain ⟨y, pe⟩ := pp
  simp only at H2 hsm
  clear h hwf he hq
  by_cases hpe : pe = 0
  · subst hpe
    have d1 : decide (b < 1) = true := decide_eq_true (by omega)
    clear hsm
    go_enter Try.func8, Try.ntmps8
    go_wp2_with fail
    refine (HQ.out _).mono ?_
    rintro e w0 ⟨rfl, rfl⟩
    go_wp2_with fail
    refine (H1.out _ HF.out).mono ?_
    rintro e w1 ⟨rfl, hb⟩
    have HB := Aside0.mk hb
    clear hb HQ
    go_wp2_with fail
    refine (H2.out _ (Kd.C_below HF.out HB.out)).mono ?_
    rintro e w2 ⟨v, rfl, hv, hb⟩
    replace HB := Aside0.mk (below_then HB.out HB.out.size hb)
    obtain ⟨A2, c2, rfl, hc2, hr2⟩ := hv.out
    clear hb hv hr2
    go_wp2_with fail
    refine (awake_calls _).mono ?_
    rintro e w8 ⟨rfl, hb⟩
    replace HB := Aside0.mk (below_then HB.out HB.out.size hb)
    clear hb
    go_wp2_with fail
    go_ret
    exact ⟨rfl, HB.out⟩
  · have d1 : (pe != 0) = true := by simpa using hpe
    clear hsm hpe
    go_enter Try.func8, Try.ntmps8
    go_wp2_with fail
    refine (HQ.out _).mono ?_
    rintro e w0 ⟨rfl, rfl⟩
    go_wp2_with fail
    refine (H1.out _ HF.out).mono ?_
    rintro e w1 ⟨rfl, hb⟩
    have HB := Aside0.mk hb
    clear hb HQ
    go_wp2_with fail
    refine (H2.out _ (Kd.C_below HF.out HB.out)).mono ?_
    rintro e w2 ⟨v, rfl, hv, hb⟩
    replace HB := Aside0.mk (below_then HB.out HB.out.size hb)
    obtain ⟨A2, c2, rfl, hc2, hr2⟩ := hv.out
    clear hb hv hr2
    go_wp2_with fail
    refine (awake_calls _).mono ?_
    rintro e w8 ⟨rfl, hb⟩
    replace HB := Aside0.mk (below_then HB.out HB.out.size hb)
    clear hb
    go_wp2_with fail
    go_ret
    exact ⟨rfl, HB.out⟩
set_option maxHeartbeats 4000000 in
set_option maxRecDepth 100000 in
theorem pins_main (A : Option Addr) (n c : Nat) (m : List S56) (s b : Int) (j : Nat) (w : World) (hq : ∀ W : World, Calls Try.prog 18 #[.slice A n c] W fun e w' => e = .returned (.slice A m.length c) ∧ w' = W)
    (hj : j < m.length) (hm : mayB m = true) (hs : 0 ≤ s) (hf : (rd_T56 m j).f0 = s) (hb1 : 1 ≤ b) (hb2 : b ≤ 99) (hb3 : (rd_T56 m j).f2 + b ≤ 99) (h : Kd.C k56 w A m.length m) (hc : m.length ≤ c) (hn : m.length ≤ 1000000) (hwf : ∀ x ∈ m, (Lit.int .i64 x.f0).wf = true) :
    Calls Try.prog 8 #[.slice A n c, .int .i64 s, .int .i64 b] w fun e w' => e = .returned (.bool true) ∧ Below w.heap.size w w' := by
  obtain ⟨p1, p2, p3, p4, p5⟩ := pins_pure m s b j hj hm hs hf hb1 hb2 hb3
  have he : findP m s = ((j : Int), 0) := ((mayB_iff m).1 hm).find hj hs hf
  have hmX : mayB (m.set j ⟨(rd_T56 m j).f0, (rd_T56 m j).f1, (rd_T56 m j).f2 + b⟩) = true := by
    cases hm2 : mayB (m.set j ⟨(rd_T56 m j).f0, (rd_T56 m j).f1, (rd_T56 m j).f2 + b⟩)
    · rw [dropP, findP, hm2] at p3
      simp at p3
    · rfl
  have hwX := set_wf hwf j (y := ⟨(rd_T56 m j).f0, (rd_T56 m j).f1, (rd_T56 m j).f2 + b⟩) (show (Lit.int .i64 (rd_T56 m j).f0).wf = true from hwf _ (rd_mem hj))
  have hlX : (m.set j ⟨(rd_T56 m j).f0, (rd_T56 m j).f1, (rd_T56 m j).f2 + b⟩).length = m.length := List.length_set
  generalize m.set j ⟨(rd_T56 m j).f0, (rd_T56 m j).f1, (rd_T56 m j).f2 + b⟩ = X at *
  have hnX : X.length ≤ 1000000 := by omega
  obtain ⟨v1, v2, hv⟩ : ∃ v g : Int, victimP X = (v, g) := ⟨(victimP X).1, (victimP X).2, rfl⟩
  have hvb : (v2 != 0 || v1 != (j : Int)) = true := by
    rw [hv] at p2
    simpa using p2
  have HF := Aside0.mk h
  have HQ := Aside0.mk hq
  have H1 := Aside0.mk (fun (W : World) (hC : Kd.C k56 W A m.length m) => find_calls A c m s W hC hc hn hwf)
  have H2 := Aside0.mk (fun (W : World) (hC : Kd.C k56 W A m.length m) => pin_calls A c m s b W hC hc hn hwf)
  have H3 := Aside0.mk (fun (W : World) (A3 : Option Addr) (c3 : Nat) (h3 : X.length ≤ c3) (hC : Kd.C k56 W A3 X.length X) => victim_calls A3 c3 X W hC h3 hnX hwX)
  have H4 := Aside0.mk (fun (W : World) (A3 : Option Addr) (c3 : Nat) (h3 : X.length ≤ c3) (hC : Kd.C k56 W A3 X.length X) => drop_calls A3 c3 X s W hC h3 hnX hwX)
  have H5 := Aside0.mk (fun (W : World) (A3 : Option Addr) (c3 : Nat) (h3 : X.length ≤ c3) (hC : Kd.C k56 W A3 X.length X) => put_calls A3 c3 X j 1099511627776 5 W hC h3 hnX hwX)
  have H6 := Aside0.mk (fun (W : World) (A3 : Option Addr) (c3 : Nat) (h3 : X.length ≤ c3) (hC : Kd.C k56 W A3 X.length X) => pin_calls A3 c3 X s (-b) W hC h3 hnX hwX)
  unfold PinPost at H2 H6
  unfold DropPost at H4
  unfold PutPost at H5
  rw [he] at H1
  rw [p1] at H2
  rw [hv] at H3
  rw [p3] at H4
  rw [p5] at H6
  generalize putP X j 1099511627776 5 = pp at *
  obtain ⟨py, pe⟩ := pp
  simp only at H1 H2 H3 H4 H5 H6 p4
  have d4 : (pe != 0) = true := by simpa using p4
  have d1 : decide (b < 1) = false := decide_eq_false (by omega)
  have hneg : IntKind.i64.wrap (-b) = -b := IntWalk.i64_in _ (by omega)
  have HN := Aside0.mk hn
  have HC := Aside0.mk hc
  clear h hwf he hq p1 p2 p3 p4 p5 hm hf hb3 hmX hwX hlX hnX hv hs hj hn hc
  have hvc : ((v2 != 0) = true) ∨ ((v2 != 0) = false ∧ (v1 != (j : Int)) = true) := by
    cases hg : (v2 != 0)
    · rw [hg] at hvb
      exact .inr ⟨rfl, by simpa using hvb⟩
    · exact .inl rfl
  clear hvb
  go_enter Try.func8, Try.ntmps8
  go_wp2_with fail
  refine (HQ.out _).mono ?_
  rintro e w0 ⟨rfl, rfl⟩
  go_wp2_with fail
  refine (H1.out _ HF.out).mono ?_
  rintro e w1 ⟨rfl, hb⟩
  have HB := Aside0.mk hb
  replace HF := Aside0.mk (Kd.C_below HF.out hb)
  clear hb HQ
  go_wp2_with fail
  refine (H2.out _ HF.out).mono ?_
  rintro e w2 ⟨v, rfl, hv, hb⟩
  replace HB := Aside0.mk (below_then HB.out HB.out.size hb)
  replace HF := Aside0.mk (Kd.C_below HF.out hb)
  obtain ⟨A2, c2, rfl, hc2, hr2⟩ := hv.out
  have HC2 := Aside0.mk hc2
  have HR := Aside0.mk hr2
  clear hb hv hr2 hc2 H1 H2
  go_wp2_with fail
  refine (H3.out _ _ _ HC2.out HR.out).mono ?_
  rintro e w3 ⟨rfl, hb⟩
  replace HB := Aside0.mk (below_then HB.out HB.out.size hb)
  replace HF := Aside0.mk (Kd.C_below HF.out hb)
  replace HR := Aside0.mk (Kd.C_below HR.out hb)
  clear hb H3
  go_wp2_with fail
  refine (H4.out _ _ _ HC2.out HR.out).mono ?_
  rintro e w4 ⟨v, rfl, hv, hb⟩
  replace HB := Aside0.mk (below_then HB.out HB.out.size hb)
  replace HF := Aside0.mk (Kd.C_below HF.out hb)
  replace HR := Aside0.mk (Kd.C_below HR.out hb)
  obtain ⟨A4, c4, rfl, hc4, hr4⟩ := hv.out
  clear hb hv hr4 hc4 H4
  go_wp2_with fail
  refine (H5.out _ _ _ HC2.out HR.out).mono ?_
  rintro e w5 ⟨v, rfl, hv, hb⟩
  replace HB := Aside0.mk (below_then HB.out HB.out.size hb)
  replace HF := Aside0.mk (Kd.C_below HF.out hb)
  replace HR := Aside0.mk (Kd.C_below HR.out hb)
  obtain ⟨A5, c5, rfl, hc5, hr5⟩ := hv.out
  clear hb hv hr5 hc5 H5
  go_wp2_with fail
  refine (H6.out _ _ _ HC2.out HR.out).mono ?_
  rintro e w6 ⟨v, rfl, hv, hb⟩
  replace HB := Aside0.mk (below_then HB.out HB.out.size hb)
  replace HF := Aside0.mk (Kd.C_below HF.out hb)
  have HV := Aside0.mk hv
  obtain ⟨A6, c6, rfl, hc6, hr6⟩ := hv.out
  clear hb hv hr6 hc6 H6 HR
  have HS := Aside0.mk (same_calls _ _ m m w6 HV.out ⟨⟨A, c, rfl, HC.out, HF.out⟩⟩ HN.out)
  rw [sameL_self] at HS
  rcases hvc with dv | ⟨dv, dv2⟩
  · go_wp2_with fail
    refine HS.out.mono ?_
    rintro e w7 ⟨rfl, hd⟩
    replace HB := Aside0.mk (below_then HB.out HB.out.size hd.below)
    clear hd
    go_wp2_with fail
    refine (awake_calls _).mono ?_
    rintro e w8 ⟨rfl, hb⟩
    replace HB := Aside0.mk (below_then HB.out HB.out.size hb)
    clear hb
    go_wp2_with fail
    go_ret
    exact ⟨rfl, HB.out⟩
  · go_wp2_with fail
    refine HS.out.mono ?_
    rintro e w7 ⟨rfl, hd⟩
    replace HB := Aside0.mk (below_then HB.out HB.out.size hd.below)
    clear hd
    go_wp2_with fail
    refine (awake_calls _).mono ?_
    rintro e w8 ⟨rfl, hb⟩
    replace HB := Aside0.mk (below_then HB.out HB.out.size hb)
    clear hb
    go_wp2_with fail
    go_ret
    exact ⟨rfl, HB.out⟩
theorem pins_try (A : Option Addr) (c : Nat) (l : List S56) (s b : Int) (w : World) (h : Kd.C k56 w A l.length l) (hc : l.length ≤ c) (hwf : ∀ x ∈ l, (Lit.int .i64 x.f0).wf = true) :
    Calls Try.prog 8 #[.slice A l.length c, .int .i64 s, .int .i64 b] w fun e w' => e = .returned (.bool true) ∧ Below w.heap.size w w' := by
  have hN : (fewL l).length ≤ c := by rw [fewL_len]; have := (fewN_le l.length).1; omega
  have H41 := few_len l
  have HQ : ∀ W : World, Calls Try.prog 18 #[.slice A l.length c] W fun e w' => e = .returned (.slice A (fewL l).length c) ∧ w' = W := fun W => by rw [fewL_len]; exact few_calls A l.length c hc W
  rcases findP_cases (fewL l) s with ⟨he, _⟩ | ⟨he, _⟩ | ⟨j, hj, he, hm, hs, _, hf⟩
  · exact pins_err A _ c _ s b 1 w HQ he rfl rfl (few_C h) hN (by omega) (few_wf hwf)
  · exact pins_err A _ c _ s b 6 w HQ he rfl rfl (few_C h) hN (by omega) (few_wf hwf)
  · by_cases hb : (pinP (fewL l) s b).2 ≠ 0 ∨ b < 1
    · exact pins_small A _ c _ s b j w HQ he hb (few_C h) hN (by omega) (few_wf hwf)
    · have hb1 : (pinP (fewL l) s b).2 = 0 ∧ 1 ≤ b := by omega
      obtain ⟨hp, hb1⟩ := hb1
      rw [pinP, he] at hp
      simp only [if_true] at hp
      split at hp
      · simp at hp
      · exact pins_main A _ c _ s b j w HQ hj hm hs hf hb1 (by omega) (by omega) (few_C h) hN (by omega) (few_wf hwf)
end Ca
end Go.Proofs.Ytjpnbhcoagnpjaa
