/- CacheTells walked. -/
import Derived.Test.YtjpnbhcoagnpjaaCacheSame
import Derived.Test.YtjpnbhcoagnpjaaCacheRefV
namespace Go.Proofs.Ytjpnbhcoagnpjaa
namespace Ca
open Go.RowKit Go.Proofs.YtjpnbhcoagnpjaaW.PrintWords Go.Proofs.YtjpnbhcoagnpjaaW.PrintLast Go.Proofs.YtjpnbhcoagnpjaaW.PrintMore
open Go.Proofs.Ytjpnbhcoagnpjaa.PCacheTells
set_option linter.unusedVariables false
set_option linter.unusedSimpArgs false

theorem eqL_self (x : S56) : eqL x x = true := by simp [eqL]
theorem few_wf {l : List S56} (h : ∀ x ∈ l, (Lit.int .i64 x.f0).wf = true) : ∀ x ∈ fewL l, (Lit.int .i64 x.f0).wf = true := fun x hx => h x (List.mem_of_mem_take hx)
theorem few_len (l : List S56) : (fewL l).length ≤ 257 := by
  rw [fewL_len]
  exact (fewN_le _).2
set_option maxHeartbeats 4000000 in
set_option maxRecDepth 100000 in
theorem tells_try (A : Option Addr) (c : Nat) (l : List S56) (s n : Int) (w : World) (h : Kd.C k56 w A l.length l) (hc : l.length ≤ c) (hwf : ∀ x ∈ l, (Lit.int .i64 x.f0).wf = true) :
    Calls Try.prog 6 #[.slice A l.length c, .int .i64 s, .int .i64 n] w fun e w' => e = .returned (.bool true) ∧ Below w.heap.size w w' := by
  have HF := Aside0.mk (few_C h)
  have hN : (fewL l).length ≤ c := by rw [fewL_len]; have := (fewN_le l.length).1; omega
  have H41 := few_len l
  have HQ : Aside0 (∀ W : World, Calls Try.prog 18 #[.slice A l.length c] W fun e w' => e = .returned (.slice A (fewL l).length c) ∧ w' = W) := ⟨fun W => by rw [fewL_len]; exact few_calls A l.length c hc W⟩
  have hwf2 := few_wf hwf
  clear h hwf
  generalize fewL l = m at *
  have hm6 : m.length ≤ 1000000 := by omega
  have H1 := Aside0.mk (fun (W : World) (hC : Kd.C k56 W A m.length m) => find_calls A c m s W hC hN hm6 hwf2)
  have H2 : Aside0 (∀ (W : World) (hC : Kd.C k56 W A m.length m), Calls Try.prog 20 #[.slice A m.length c, .int .i64 s] W fun e w' => e = .returned (.tuple #[.int .i64 (findP m s).1, .int .i64 (findP m s).2]) ∧ Below W.heap.size W w') :=
    ⟨fun W hC => by obtain ⟨k, hk⟩ := find_ref m s hm6; exact haymowref16_Find.calls k A c m s _ _ W hC hN hk⟩
  have H3 := Aside0.mk (fun (W : World) (hC : Kd.C k56 W A m.length m) => victim_calls A c m W hC hN hm6 hwf2)
  have H4 : Aside0 (∀ (W : World) (hC : Kd.C k56 W A m.length m), Calls Try.prog 22 #[.slice A m.length c] W fun e w' => e = .returned (.tuple #[.int .i64 (victimP m).1, .int .i64 (victimP m).2]) ∧ Below W.heap.size W w') :=
    ⟨fun W hC => by obtain ⟨k, hk⟩ := victim_ref m hm6; exact haymowref16_Victim.calls k A c m _ _ W hC hN hk⟩
  have H5 := Aside0.mk (fun (W : World) (hC : Kd.C k56 W A m.length m) => may_calls A c m W hC hN hm6 hwf2)
  have H6 : Aside0 (∀ (W : World) (hC : Kd.C k56 W A m.length m), Calls Try.prog 24 #[.slice A m.length c] W fun e w' => e = .returned (.bool (mayB m)) ∧ Below W.heap.size W w') :=
    ⟨fun W hC => by obtain ⟨k, hk⟩ := (may_ref m hm6).rounds; exact haymowref16_May.calls k A c m _ W hC hN hk⟩
  generalize findP m s = fp at *
  generalize victimP m = vp at *
  generalize mayB m = mb at *
  obtain ⟨f1, f2⟩ := fp
  obtain ⟨v1, v2⟩ := vp
  simp only at H1 H2 H3 H4
  clear hwf2 hm6 H41
  go_enter Try.func6, Try.ntmps6
  go_wp2_with fail
  refine (HQ.out _).mono ?_
  rintro e w0 ⟨rfl, rfl⟩
  go_wp2_with fail
  refine (H1.out _ HF.out).mono ?_
  rintro e w1 ⟨rfl, hb⟩
  have HB := Aside0.mk hb
  clear hb HQ
  go_wp2_with fail
  refine (H2.out _ (Kd.C_below HF.out HB.out)).mono ?_
  rintro e w2 ⟨rfl, hb⟩
  replace HB := Aside0.mk (below_then HB.out HB.out.size hb)
  clear hb
  go_wp2_with fail
  refine (H3.out _ (Kd.C_below HF.out HB.out)).mono ?_
  rintro e w3 ⟨rfl, hb⟩
  replace HB := Aside0.mk (below_then HB.out HB.out.size hb)
  clear hb
  go_wp2_with fail
  refine (H4.out _ (Kd.C_below HF.out HB.out)).mono ?_
  rintro e w4 ⟨rfl, hb⟩
  replace HB := Aside0.mk (below_then HB.out HB.out.size hb)
  clear hb H1 H2 H3 H4
  have e1 : (f1 != f1) = false := by simp
  have e2 : (f2 != f2) = false := by simp
  have e3 : (v1 != v1) = false := by simp
  have e4 : (v2 != v2) = false := by simp
  go_wp2_with fail
  refine (H5.out _ (Kd.C_below HF.out HB.out)).mono ?_
  rintro e w5 ⟨rfl, hb⟩
  replace HB := Aside0.mk (below_then HB.out HB.out.size hb)
  clear hb
  go_wp2_with fail
  refine (H6.out _ (Kd.C_below HF.out HB.out)).mono ?_
  rintro e w6 ⟨rfl, hb⟩
  replace HB := Aside0.mk (below_then HB.out HB.out.size hb)
  clear hb H5 H6 HF
  have HNw := Aside0.mk (new_calls n w6)
  have e5 : (mb != mb) = false := by simp
  by_cases hn : n < 1 ∨ 256 < n
  · have hp : newP n = ([], 1) := by rw [newP, if_pos hn]
    rw [hp] at HNw
    have HP := Aside0.mk hn
    clear hp
    by_cases h1 : n < 1
    · have d1 : decide (n < 1) = true := decide_eq_true h1
      clear h1 hn
      go_wp2_with fail
      refine HNw.out.mono ?_
      rintro e w7 ⟨v, rfl, ⟨⟨A7, c7, rfl, hc7, hr7⟩⟩, hb⟩
      replace HB := Aside0.mk (below_then HB.out HB.out.size hb)
      clear hb hr7 HNw
      go_wp2_with fail
      refine (awake_calls _).mono ?_
      rintro e w8 ⟨rfl, hb⟩
      replace HB := Aside0.mk (below_then HB.out HB.out.size hb)
      clear hb
      go_wp2_with fail
      go_ret
      exact ⟨rfl, HB.out⟩
    · have d1 : decide (n < 1) = false := decide_eq_false h1
      have d2 : decide (256 < n) = true := decide_eq_true (by omega)
      clear h1 hn
      go_wp2_with fail
      refine HNw.out.mono ?_
      rintro e w7 ⟨v, rfl, ⟨⟨A7, c7, rfl, hc7, hr7⟩⟩, hb⟩
      replace HB := Aside0.mk (below_then HB.out HB.out.size hb)
      clear hb hr7 HNw
      go_wp2_with fail
      refine (awake_calls _).mono ?_
      rintro e w8 ⟨rfl, hb⟩
      replace HB := Aside0.mk (below_then HB.out HB.out.size hb)
      clear hb
      go_wp2_with fail
      go_ret
      exact ⟨rfl, HB.out⟩
  · have hp : newP n = (List.replicate n.toNat noneL, 0) := by rw [newP, if_neg hn]
    rw [hp] at HNw
    have d1 : decide (n < 1) = false := decide_eq_false (by omega)
    have d2 : decide (256 < n) = false := decide_eq_false (by omega)
    obtain ⟨q, rfl⟩ : ∃ q : Nat, n = (q : Int) := ⟨n.toNat, by omega⟩
    have hq1 : 1 ≤ q := by omega
    have hq2 : q ≤ 256 := by omega
    rw [Int.toNat_natCast] at HNw
    clear hp hn
    go_wp2_with fail
    refine HNw.out.mono ?_
    rintro e w7 ⟨v, rfl, ⟨⟨A7, c7, rfl, hc7, hr7⟩⟩, hb⟩
    replace HB := Aside0.mk (below_then HB.out HB.out.size hb)
    rw [List.length_replicate] at hr7 hc7 ⊢
    have HR7 := Aside0.mk hr7
    clear hb hr7 HNw
    go_wp2_with fail
    go_loop [17] (fun i => ∃ k : Nat, k ≤ q ∧ i = .int .i64 k) (fun i => q - (intOf i).toNat)
    case atStart => exact ⟨0, Nat.zero_le _, rfl⟩
    case round =>
      obtain ⟨k, hk, rfl⟩ := hrel
      by_cases hlt : k < q
      · obtain ⟨ad, rfl, hx0, hx1, hx2⟩ := at_T56 HR7.out k (by omega) (by omega)
        have hrd : rd_T56 (List.replicate q noneL) k = noneL := by simp [rd_T56, List.getD_eq_getElem?_getD, hlt]
        rw [Int.toNat_natCast, hrd] at hx0 hx1 hx2
        have hne := fun W => neq56 W noneL noneL
        rw [eqL_self] at hne
        simp only [noneL, Bool.not_true] at hne hx0 hx1 hx2
        clear hrd
        go_wp2_with fail
        go_round
        case rel => exact ⟨k + 1, by omega, by go_num⟩
        case measure => simp [intOf]; omega
      · obtain rfl : k = q := by omega
        go_wp2_with fail
        refine (awake_calls _).mono ?_
        rintro e w8 ⟨rfl, hb⟩
        replace HB := Aside0.mk (below_then HB.out HB.out.size hb)
        clear hb
        go_wp2_with fail
        go_ret
        exact ⟨rfl, HB.out⟩
end Ca
end Go.Proofs.Ytjpnbhcoagnpjaa
