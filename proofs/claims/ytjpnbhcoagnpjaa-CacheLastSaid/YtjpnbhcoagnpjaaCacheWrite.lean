/- cache.Touch, Put, Pin, Drop. -/
import Derived.Test.YtjpnbhcoagnpjaaCacheOps
namespace Go.Proofs.Ytjpnbhcoagnpjaa
namespace Ca
open Go.RowKit Go.Proofs.YtjpnbhcoagnpjaaW.PrintWords Go.Proofs.YtjpnbhcoagnpjaaW.PrintLast Go.Proofs.YtjpnbhcoagnpjaaW.PrintMore
open Go.Proofs.Ytjpnbhcoagnpjaa.PCacheTells
set_option linter.unusedVariables false
set_option linter.unusedSimpArgs false

theorem findN_lt : ∀ (l : List S56) (s : Int) (j : Nat), findN l s = some j → j < l.length ∧ (rd_T56 l j).f0 = s
  | [], s, j, h => by simp [findN] at h
  | x :: r, s, j, h => by
    rw [findN] at h
    split at h
    · rename_i hx
      injection h with h
      subst h
      exact ⟨by simp, hx⟩
    · cases hr : findN r s with
      | none => rw [hr] at h; simp at h
      | some v =>
        rw [hr] at h
        simp at h
        subst h
        obtain ⟨h1, h2⟩ := findN_lt r s v hr
        refine ⟨by simpa using h1, ?_⟩
        rw [← h2]
        rfl
theorem findP_cases (l : List S56) (s : Int) : (findP l s = (0, 1) ∧ mayB l = false) ∨ (findP l s = (0, 6) ∧ mayB l = true ∧ (s < 0 ∨ findN l s = none)) ∨
    ∃ j : Nat, j < l.length ∧ findP l s = ((j : Int), 0) ∧ mayB l = true ∧ 0 ≤ s ∧ findN l s = some j ∧ (rd_T56 l j).f0 = s := by
  cases hm : mayB l
  · exact .inl ⟨by rw [findP, hm]; rfl, rfl⟩
  · right
    cases hf : findN l s with
    | none => exact .inl ⟨by rw [findP, hm, hf]; rfl, rfl, .inr rfl⟩
    | some j =>
      by_cases hs : s < 0
      · exact .inl ⟨by rw [findP, hm, hf]; simp [hs], rfl, .inl hs⟩
      · obtain ⟨h1, h2⟩ := findN_lt l s j hf
        exact .inr ⟨j, h1, by rw [findP, hm, hf]; simp [hs], rfl, by omega, rfl, h2⟩
theorem okL_of_may : ∀ (l : List S56) (S : Int → Bool), mayC l S = true → ∀ x ∈ l, okL x = true
  | [], _, _, x, hx => by simp at hx
  | y :: r, S, h, x, hx => by
    simp only [mayC, Bool.and_eq_true] at h
    rcases List.mem_cons.1 hx with rfl | hx
    · exact h.1.1
    · exact okL_of_may r _ h.2 x hx
theorem may_at {l : List S56} (h : mayB l = true) {j : Nat} (hj : j < l.length) : okL (rd_T56 l j) = true := by
  simp only [mayB, Bool.and_eq_true] at h
  exact okL_of_may l _ h.1.1 _ (rd_mem hj)
theorem okL_bounds {x : S56} (h : okL x = true) : 0 ≤ x.f1 ∧ x.f1 ≤ 2147483647 ∧ 0 ≤ x.f2 ∧ x.f2 ≤ 99 ∧ -1 ≤ x.f0 ∧ (x.f0 = -1 → x.f1 = 0 ∧ x.f2 = 0) := by
  simp only [okL, badL, inB, Bool.and_eq_true, Bool.not_eq_true', Bool.or_eq_false_iff, decide_eq_true_eq, decide_eq_false_iff_not, Bool.and_eq_false_iff, Bool.not_eq_false'] at h
  omega
def touchP (l : List S56) (s t : Int) : List S56 × Int :=
  if (findP l s).2 = 0 then (if inB t 2147483647 then (l.set (findP l s).1.toNat ⟨(rd_T56 l (findP l s).1).f0, t, (rd_T56 l (findP l s).1).f2⟩, 0) else ([], 1)) else ([], (findP l s).2)
set_option maxHeartbeats 2000000 in
theorem touch_err (A0 : Option Addr) (c0 : Nat) (l0 : List S56) (s t e0 : Int) (w : World) (he : findP l0 s = (0, e0)) (hne : (e0 != 0) = true) (hr0 : Kd.C k56 w A0 l0.length l0) (hc0 : l0.length ≤ c0) (hn : l0.length ≤ 1000000) (hwf : ∀ x ∈ l0, (Lit.int .i64 x.f0).wf = true) :
    Calls Try.prog 27 #[.slice A0 l0.length c0, .int .i64 s, .int .i64 t] w fun e w' => ∃ v, e = .returned (.tuple #[v, .int .i64 e0]) ∧ Rl w' v [] ∧ Below w.heap.size w w' := by
  have HF := Aside0.mk (find_calls A0 c0 l0 s w hr0 hc0 hn hwf)
  rw [he] at HF
  clear he hwf hr0
  go_enter Try.func27, Try.ntmps27
  go_wp2_with fail
  refine HF.out.mono ?_
  rintro e w1 ⟨rfl, hb⟩
  have HB := Aside0.mk hb
  clear hb HF
  go_wp2_with fail
  go_ret2
  exact ⟨_, rfl, Rl.nil _, HB.out⟩
set_option maxHeartbeats 2000000 in
theorem touch_ok (A0 : Option Addr) (c0 : Nat) (l0 : List S56) (s t : Int) (j : Nat) (w : World) (hj : j < l0.length) (he : findP l0 s = ((j : Int), 0)) (hr0 : Kd.C k56 w A0 l0.length l0) (hc0 : l0.length ≤ c0) (hn : l0.length ≤ 1000000) (hwf : ∀ x ∈ l0, (Lit.int .i64 x.f0).wf = true) :
    Calls Try.prog 27 #[.slice A0 l0.length c0, .int .i64 s, .int .i64 t] w fun e w' => ∃ v, e = .returned (.tuple #[v, .int .i64 (touchP l0 s t).2]) ∧ Rl w' v (touchP l0 s t).1 ∧ Below w.heap.size w w' := by
  have HF := Aside0.mk (find_calls A0 c0 l0 s w hr0 hc0 hn hwf)
  rw [he] at HF
  have hT : touchP l0 s t = if inB t 2147483647 then (l0.set j ⟨(rd_T56 l0 j).f0, t, (rd_T56 l0 j).f2⟩, 0) else ([], 1) := by rw [touchP, he]; simp
  have HR0 := Aside0.mk hr0
  rw [hT]
  have HT := Aside0.mk (tick_calls t)
  clear he hwf hT hr0
  obtain ⟨X, hX⟩ : ∃ X, X = rd_T56 l0 j := ⟨_, rfl⟩
  rw [← hX]
  have HX := Aside0.mk hX
  clear hX
  have hj0 : (0 : Int) ≤ (j : Int) := by omega
  have hj1 : (j : Int) < (l0.length : Int) := by omega
  cases ht : inB t 2147483647
  · simp only [Bool.false_eq_true, if_false]
    rw [ht] at HT
    clear ht
    go_enter Try.func27, Try.ntmps27
    go_wp2_with fail
    refine HF.out.mono ?_
    rintro e w1 ⟨rfl, hb⟩
    have HB := Aside0.mk hb
    obtain ⟨ad, rfl, hx0, hx1, hx2⟩ := at_T56 (Kd.C_below HR0.out hb) j (by omega) (by omega)
    rw [Int.toNat_natCast] at hx0 hx1 hx2
    rw [← HX.out] at hx0 hx1 hx2
    clear hb HF HR0 HX
    go_wp2_with fail
    refine (HT.out _).mono ?_
    rintro e w3 ⟨rfl, ⟨nd, rfl⟩⟩
    go_wp2_with fail
    go_ret2
    exact ⟨_, rfl, Rl.nil _, pw_below_drewN (below_alloc HB.out _) _⟩
  · simp only [if_true]
    rw [ht] at HT
    clear ht
    go_enter Try.func27, Try.ntmps27
    go_wp2_with fail
    refine HF.out.mono ?_
    rintro e w1 ⟨rfl, hb⟩
    have HB := Aside0.mk hb
    have HR1 := Aside0.mk (Kd.C_below HR0.out hb)
    obtain ⟨ad, rfl, hx0, hx1, hx2⟩ := at_T56 HR1.out j (by omega) (by omega)
    rw [Int.toNat_natCast] at hx0 hx1 hx2
    rw [← HX.out] at hx0 hx1 hx2
    clear hb HF HR0 HX
    go_wp2_with fail
    have hnew := blk_new w1 (.cells #[.int .i64 X.f0, .int .i64 t, .int .i64 X.f2] 56)
    replace HR1 := Aside0.mk (Kd.C_below HR1.out (below_alloc (Below.refl _ _) (.cells #[.int .i64 X.f0, .int .i64 t, .int .i64 X.f2] 56)))
    replace HB := Aside0.mk (below_alloc HB.out (.cells #[.int .i64 X.f0, .int .i64 t, .int .i64 X.f2] 56))
    clear hx0 hx1 hx2
    generalize w1.alloc (.cells #[.int .i64 X.f0, .int .i64 t, .int .i64 X.f2] 56) = wa at *
    have q0 : wa.cell? ⟨w1.heap.size, 0, none⟩ = some (.int .i64 X.f0) := blk_cell hnew 0
    have q1 : wa.cell? ⟨w1.heap.size, 1, none⟩ = some (.int .i64 t) := blk_cell hnew 1
    have q2 : wa.cell? ⟨w1.heap.size, 2, none⟩ = some (.int .i64 X.f2) := blk_cell hnew 2
    clear hnew
    refine (HT.out _).mono ?_
    rintro e w3 ⟨rfl, ⟨nd, rfl⟩⟩
    go_wp2_with fail
    refine (with_calls _ c0 l0 j ⟨X.f0, t, X.f2⟩ _ (Kd.C_below HR1.out (pw_below_drewN (Below.refl _ _) nd)) hj hn).mono ?_
    rintro e w4 ⟨v, rfl, hv, hb⟩
    have HV := Aside0.mk hv
    have HB4 := Aside0.mk (below_then (pw_below_drewN HB.out nd) HB.out.size hb)
    clear hv hb q0 q1 q2
    go_wp2_with fail
    go_ret2
    exact ⟨_, rfl, HV.out, HB4.out⟩
theorem touch_calls (A0 : Option Addr) (c0 : Nat) (l0 : List S56) (s t : Int) (w : World) (hr0 : Kd.C k56 w A0 l0.length l0) (hc0 : l0.length ≤ c0) (hn : l0.length ≤ 1000000) (hwf : ∀ x ∈ l0, (Lit.int .i64 x.f0).wf = true) :
    Calls Try.prog 27 #[.slice A0 l0.length c0, .int .i64 s, .int .i64 t] w fun e w' => ∃ v, e = .returned (.tuple #[v, .int .i64 (touchP l0 s t).2]) ∧ Rl w' v (touchP l0 s t).1 ∧ Below w.heap.size w w' := by
  rcases findP_cases l0 s with ⟨he, _⟩ | ⟨he, _⟩ | ⟨j, hj, he, _⟩
  · have hT : touchP l0 s t = ([], 1) := by rw [touchP, he]; rfl
    rw [hT]
    exact touch_err A0 c0 l0 s t 1 w he rfl hr0 hc0 hn hwf
  · have hT : touchP l0 s t = ([], 6) := by rw [touchP, he]; rfl
    rw [hT]
    exact touch_err A0 c0 l0 s t 6 w he rfl hr0 hc0 hn hwf
  · exact touch_ok A0 c0 l0 s t j w hj he hr0 hc0 hn hwf
end Ca
end Go.Proofs.Ytjpnbhcoagnpjaa
