/- cache.Pin, Drop. -/
import Derived.Test.YtjpnbhcoagnpjaaCacheWrite
namespace Go.Proofs.Ytjpnbhcoagnpjaa
namespace Ca
open Go.RowKit Go.Proofs.YtjpnbhcoagnpjaaW.PrintWords Go.Proofs.YtjpnbhcoagnpjaaW.PrintLast Go.Proofs.YtjpnbhcoagnpjaaW.PrintMore
open Go.Proofs.Ytjpnbhcoagnpjaa.PCacheTells
set_option linter.unusedVariables false
set_option linter.unusedSimpArgs false

def pinP (l : List S56) (s b : Int) : List S56 × Int :=
  if (findP l s).2 = 0 then
    (if b < -99 ∨ 99 < b ∨ (rd_T56 l (findP l s).1).f2 + b < 0 ∨ 99 < (rd_T56 l (findP l s).1).f2 + b then ([], 1)
     else (l.set (findP l s).1.toNat ⟨(rd_T56 l (findP l s).1).f0, (rd_T56 l (findP l s).1).f1, (rd_T56 l (findP l s).1).f2 + b⟩, 0))
  else ([], (findP l s).2)
def PinPost (l : List S56) (s b : Int) (w : World) (e : Ending) (w' : World) : Prop :=
  ∃ v, e = .returned (.tuple #[v, .int .i64 (pinP l s b).2]) ∧ Rl w' v (pinP l s b).1 ∧ Below w.heap.size w w'
theorem PinPost.err {l : List S56} {s t c : Int} {w w' : World} (h : pinP l s t = ([], c)) (hb : Below w.heap.size w w') : PinPost l s t w (.returned (.tuple #[.slice none 0 0, .int .i64 c])) w' := by
  rw [PinPost, h]
  exact ⟨_, rfl, Rl.nil _, hb⟩
set_option maxHeartbeats 2000000 in
theorem pin_err (A0 : Option Addr) (c0 : Nat) (l0 : List S56) (s t e0 : Int) (w : World) (he : findP l0 s = (0, e0)) (hne : (e0 != 0) = true) (hr0 : Kd.C k56 w A0 l0.length l0) (hc0 : l0.length ≤ c0) (hn : l0.length ≤ 1000000) (hwf : ∀ x ∈ l0, (Lit.int .i64 x.f0).wf = true) :
    Calls Try.prog 29 #[.slice A0 l0.length c0, .int .i64 s, .int .i64 t] w (PinPost l0 s t w) := by
  have HF := Aside0.mk (find_calls A0 c0 l0 s w hr0 hc0 hn hwf)
  have HP : Aside0 (pinP l0 s t = ([], e0)) := ⟨by rw [pinP, he]; simp only; rw [if_neg (by simpa using hne)]⟩
  rw [he] at HF
  clear he hwf hr0
  go_enter Try.func29, Try.ntmps29
  go_wp2_with fail
  refine HF.out.mono ?_
  rintro e w1 ⟨rfl, hb⟩
  have HB := Aside0.mk hb
  clear hb HF
  go_wp2_with fail
  go_ret2
  exact PinPost.err HP.out HB.out
set_option maxHeartbeats 4000000 in
theorem pin_ok (A0 : Option Addr) (c0 : Nat) (l0 : List S56) (s b : Int) (j : Nat) (w : World) (hj : j < l0.length) (hm : mayB l0 = true) (he : findP l0 s = ((j : Int), 0)) (hr0 : Kd.C k56 w A0 l0.length l0) (hc0 : l0.length ≤ c0) (hn : l0.length ≤ 1000000) (hwf : ∀ x ∈ l0, (Lit.int .i64 x.f0).wf = true) :
    Calls Try.prog 29 #[.slice A0 l0.length c0, .int .i64 s, .int .i64 b] w (PinPost l0 s b w) := by
  have HF := Aside0.mk (find_calls A0 c0 l0 s w hr0 hc0 hn hwf)
  have HR0 := Aside0.mk hr0
  rw [he] at HF
  have hT : pinP l0 s b = if b < -99 ∨ 99 < b ∨ (rd_T56 l0 j).f2 + b < 0 ∨ 99 < (rd_T56 l0 j).f2 + b then ([], 1) else (l0.set j ⟨(rd_T56 l0 j).f0, (rd_T56 l0 j).f1, (rd_T56 l0 j).f2 + b⟩, 0) := by rw [pinP, he]; simp
  obtain ⟨_, _, hx2lo, hx2hi, _, _⟩ := okL_bounds (may_at hm hj)
  clear he hwf hr0
  obtain ⟨X, hX⟩ : ∃ X, X = rd_T56 l0 j := ⟨_, rfl⟩
  rw [← hX] at hT hx2lo hx2hi
  have HX := Aside0.mk hX
  clear hX
  have hj0 : (0 : Int) ≤ (j : Int) := by omega
  have hj1 : (j : Int) < (l0.length : Int) := by omega
  by_cases hb1 : b < -99
  · have HP : Aside0 (pinP l0 s b = ([], 1)) := ⟨by rw [hT, if_pos (by omega)]⟩
    have d1 : decide (b < -99) = true := decide_eq_true hb1
    clear hb1 hT
    go_enter Try.func29, Try.ntmps29
    go_wp2_with fail
    refine HF.out.mono ?_
    rintro e w1 ⟨rfl, hb⟩
    have HB := Aside0.mk hb
    obtain ⟨ad, rfl, hx0, hx1, hx2⟩ := at_T56 (Kd.C_below HR0.out hb) j (by omega) (by omega)
    rw [Int.toNat_natCast] at hx0 hx1 hx2
    rw [← HX.out] at hx0 hx1 hx2
    clear hb HF HR0 HX
    go_wp2_with fail
    go_ret2
    exact PinPost.err HP.out (below_alloc HB.out _)
  · by_cases hb2 : 99 < b
    · have HP : Aside0 (pinP l0 s b = ([], 1)) := ⟨by rw [hT, if_pos (by omega)]⟩
      have d1 : decide (b < -99) = false := decide_eq_false hb1
      have d2 : decide (99 < b) = true := decide_eq_true hb2
      clear hb1 hb2 hT
      go_enter Try.func29, Try.ntmps29
      go_wp2_with fail
      refine HF.out.mono ?_
      rintro e w1 ⟨rfl, hb⟩
      have HB := Aside0.mk hb
      obtain ⟨ad, rfl, hx0, hx1, hx2⟩ := at_T56 (Kd.C_below HR0.out hb) j (by omega) (by omega)
      rw [Int.toNat_natCast] at hx0 hx1 hx2
      rw [← HX.out] at hx0 hx1 hx2
      clear hb HF HR0 HX
      go_wp2_with fail
      go_ret2
      exact PinPost.err HP.out (below_alloc HB.out _)
    · have d1 : decide (b < -99) = false := decide_eq_false hb1
      have d2 : decide (99 < b) = false := decide_eq_false hb2
      have hbl : -99 ≤ b := by omega
      have hbh : b ≤ 99 := by omega
      by_cases hb3 : X.f2 + b < 0
      · have HP : Aside0 (pinP l0 s b = ([], 1)) := ⟨by rw [hT, if_pos (by omega)]⟩
        have d3 : decide (X.f2 + b < 0) = true := decide_eq_true hb3
        clear hb1 hb2 hb3 hT
        go_enter Try.func29, Try.ntmps29
        go_wp2_with fail
        refine HF.out.mono ?_
        rintro e w1 ⟨rfl, hb⟩
        have HB := Aside0.mk hb
        obtain ⟨ad, rfl, hx0, hx1, hx2⟩ := at_T56 (Kd.C_below HR0.out hb) j (by omega) (by omega)
        rw [Int.toNat_natCast] at hx0 hx1 hx2
        rw [← HX.out] at hx0 hx1 hx2
        clear hb HF HR0 HX
        go_wp2_with fail
        go_ret2
        exact PinPost.err HP.out (below_alloc HB.out _)
      · by_cases hb4 : 99 < X.f2 + b
        · have HP : Aside0 (pinP l0 s b = ([], 1)) := ⟨by rw [hT, if_pos (by omega)]⟩
          have d3 : decide (X.f2 + b < 0) = false := decide_eq_false hb3
          have d4 : decide (99 < X.f2 + b) = true := decide_eq_true hb4
          clear hb1 hb2 hb3 hb4 hT
          go_enter Try.func29, Try.ntmps29
          go_wp2_with fail
          refine HF.out.mono ?_
          rintro e w1 ⟨rfl, hb⟩
          have HB := Aside0.mk hb
          obtain ⟨ad, rfl, hx0, hx1, hx2⟩ := at_T56 (Kd.C_below HR0.out hb) j (by omega) (by omega)
          rw [Int.toNat_natCast] at hx0 hx1 hx2
          rw [← HX.out] at hx0 hx1 hx2
          clear hb HF HR0 HX
          go_wp2_with fail
          go_ret2
          exact PinPost.err HP.out (below_alloc HB.out _)
        · have HP : Aside0 (pinP l0 s b = (l0.set j ⟨X.f0, X.f1, X.f2 + b⟩, 0)) := ⟨by rw [hT, if_neg (by omega)]⟩
          have d3 : decide (X.f2 + b < 0) = false := decide_eq_false hb3
          have d4 : decide (99 < X.f2 + b) = false := decide_eq_false hb4
          clear hb1 hb2 hb3 hb4 hT
          go_enter Try.func29, Try.ntmps29
          go_wp2_with fail
          refine HF.out.mono ?_
          rintro e w1 ⟨rfl, hb⟩
          have HB := Aside0.mk hb
          have HR1 := Aside0.mk (Kd.C_below HR0.out hb)
          obtain ⟨ad, rfl, hx0, hx1, hx2⟩ := at_T56 HR1.out j (by omega) (by omega)
          rw [Int.toNat_natCast] at hx0 hx1 hx2
          rw [← HX.out] at hx0 hx1 hx2
          clear hb HF HR0 HX
          go_wp2_with fail
          refine (with_calls _ c0 l0 j ⟨X.f0, X.f1, X.f2 + b⟩ _ (Kd.C_below HR1.out (below_alloc (Below.refl _ _) _)) hj hn).mono ?_
          rintro e w4 ⟨v, rfl, hv, hb⟩
          have HV := Aside0.mk hv
          have HB4 := Aside0.mk (below_then (below_alloc HB.out _) (below_alloc HB.out _).size hb)
          clear hv hb hx0 hx1 hx2
          go_wp2_with fail
          go_ret2
          rw [PinPost, HP.out]
          exact ⟨_, rfl, HV.out, HB4.out⟩
theorem pin_calls (A0 : Option Addr) (c0 : Nat) (l0 : List S56) (s t : Int) (w : World) (hr0 : Kd.C k56 w A0 l0.length l0) (hc0 : l0.length ≤ c0) (hn : l0.length ≤ 1000000) (hwf : ∀ x ∈ l0, (Lit.int .i64 x.f0).wf = true) :
    Calls Try.prog 29 #[.slice A0 l0.length c0, .int .i64 s, .int .i64 t] w (PinPost l0 s t w) := by
  rcases findP_cases l0 s with ⟨he, _⟩ | ⟨he, _⟩ | ⟨j, hj, he, hm, _⟩
  · exact pin_err A0 c0 l0 s t 1 w he rfl hr0 hc0 hn hwf
  · exact pin_err A0 c0 l0 s t 6 w he rfl hr0 hc0 hn hwf
  · exact pin_ok A0 c0 l0 s t j w hj hm he hr0 hc0 hn hwf

def dropP (l : List S56) (s : Int) : List S56 × Int :=
  if (findP l s).2 = 0 then (if 0 < (rd_T56 l (findP l s).1).f2 then ([], 18) else (l.set (findP l s).1.toNat noneL, 0)) else ([], (findP l s).2)
def DropPost (l : List S56) (s : Int) (w : World) (e : Ending) (w' : World) : Prop :=
  ∃ v, e = .returned (.tuple #[v, .int .i64 (dropP l s).2]) ∧ Rl w' v (dropP l s).1 ∧ Below w.heap.size w w'
theorem DropPost.err {l : List S56} {s c : Int} {w w' : World} (h : dropP l s = ([], c)) (hb : Below w.heap.size w w') : DropPost l s w (.returned (.tuple #[.slice none 0 0, .int .i64 c])) w' := by
  rw [DropPost, h]
  exact ⟨_, rfl, Rl.nil _, hb⟩
set_option maxHeartbeats 2000000 in
theorem drop_err (A0 : Option Addr) (c0 : Nat) (l0 : List S56) (s e0 : Int) (w : World) (he : findP l0 s = (0, e0)) (hne : (e0 != 0) = true) (hr0 : Kd.C k56 w A0 l0.length l0) (hc0 : l0.length ≤ c0) (hn : l0.length ≤ 1000000) (hwf : ∀ x ∈ l0, (Lit.int .i64 x.f0).wf = true) :
    Calls Try.prog 30 #[.slice A0 l0.length c0, .int .i64 s] w (DropPost l0 s w) := by
  have HF := Aside0.mk (find_calls A0 c0 l0 s w hr0 hc0 hn hwf)
  have HP : Aside0 (dropP l0 s = ([], e0)) := ⟨by rw [dropP, he]; simp only; rw [if_neg (by simpa using hne)]⟩
  rw [he] at HF
  clear he hwf hr0
  go_enter Try.func30, Try.ntmps30
  go_wp2_with fail
  refine HF.out.mono ?_
  rintro e w1 ⟨rfl, hb⟩
  have HB := Aside0.mk hb
  clear hb HF
  go_wp2_with fail
  go_ret2
  exact DropPost.err HP.out HB.out
set_option maxHeartbeats 4000000 in
theorem drop_ok (A0 : Option Addr) (c0 : Nat) (l0 : List S56) (s : Int) (j : Nat) (w : World) (hj : j < l0.length) (he : findP l0 s = ((j : Int), 0)) (hr0 : Kd.C k56 w A0 l0.length l0) (hc0 : l0.length ≤ c0) (hn : l0.length ≤ 1000000) (hwf : ∀ x ∈ l0, (Lit.int .i64 x.f0).wf = true) :
    Calls Try.prog 30 #[.slice A0 l0.length c0, .int .i64 s] w (DropPost l0 s w) := by
  have HF := Aside0.mk (find_calls A0 c0 l0 s w hr0 hc0 hn hwf)
  have HR0 := Aside0.mk hr0
  rw [he] at HF
  have hT : dropP l0 s = if 0 < (rd_T56 l0 j).f2 then ([], 18) else (l0.set j noneL, 0) := by rw [dropP, he]; simp
  clear he hwf hr0
  obtain ⟨X, hX⟩ : ∃ X, X = rd_T56 l0 j := ⟨_, rfl⟩
  rw [← hX] at hT
  have HX := Aside0.mk hX
  clear hX
  have hj0 : (0 : Int) ≤ (j : Int) := by omega
  have hj1 : (j : Int) < (l0.length : Int) := by omega
  by_cases hp : 0 < X.f2
  · have HP : Aside0 (dropP l0 s = ([], 18)) := ⟨by rw [hT, if_pos hp]⟩
    have d1 : decide (0 < X.f2) = true := decide_eq_true hp
    clear hp hT
    go_enter Try.func30, Try.ntmps30
    go_wp2_with fail
    refine HF.out.mono ?_
    rintro e w1 ⟨rfl, hb⟩
    have HB := Aside0.mk hb
    obtain ⟨ad, rfl, hx0, hx1, hx2⟩ := at_T56 (Kd.C_below HR0.out hb) j (by omega) (by omega)
    rw [Int.toNat_natCast] at hx0 hx1 hx2
    rw [← HX.out] at hx0 hx1 hx2
    clear hb HF HR0 HX
    go_wp2_with fail
    go_ret2
    exact DropPost.err HP.out HB.out
  · have HP : Aside0 (dropP l0 s = (l0.set j noneL, 0)) := ⟨by rw [hT, if_neg hp]⟩
    have d1 : decide (0 < X.f2) = false := decide_eq_false hp
    clear hp hT
    go_enter Try.func30, Try.ntmps30
    go_wp2_with fail
    refine HF.out.mono ?_
    rintro e w1 ⟨rfl, hb⟩
    have HB := Aside0.mk hb
    have HR1 := Aside0.mk (Kd.C_below HR0.out hb)
    obtain ⟨ad, rfl, hx0, hx1, hx2⟩ := at_T56 HR1.out j (by omega) (by omega)
    rw [Int.toNat_natCast] at hx0 hx1 hx2
    rw [← HX.out] at hx0 hx1 hx2
    clear hb HF HR0 HX
    go_wp2_with fail
    refine (none_calls _).mono ?_
    rintro e w3 ⟨rfl, hb⟩
    have HB3 := Aside0.mk (below_then HB.out HB.out.size hb)
    have HR3 := Aside0.mk (Kd.C_below HR1.out hb)
    clear hb
    go_wp2_with fail
    refine (with_calls _ c0 l0 j noneL _ HR3.out hj hn).mono ?_
    rintro e w4 ⟨v, rfl, hv, hb⟩
    have HV := Aside0.mk hv
    have HB4 := Aside0.mk (below_then HB3.out HB3.out.size hb)
    clear hv hb
    go_wp2_with fail
    go_ret2
    rw [DropPost, HP.out]
    exact ⟨_, rfl, HV.out, HB4.out⟩
theorem drop_calls (A0 : Option Addr) (c0 : Nat) (l0 : List S56) (s : Int) (w : World) (hr0 : Kd.C k56 w A0 l0.length l0) (hc0 : l0.length ≤ c0) (hn : l0.length ≤ 1000000) (hwf : ∀ x ∈ l0, (Lit.int .i64 x.f0).wf = true) :
    Calls Try.prog 30 #[.slice A0 l0.length c0, .int .i64 s] w (DropPost l0 s w) := by
  rcases findP_cases l0 s with ⟨he, _⟩ | ⟨he, _⟩ | ⟨j, hj, he, _⟩
  · exact drop_err A0 c0 l0 s 1 w he rfl hr0 hc0 hn hwf
  · exact drop_err A0 c0 l0 s 6 w he rfl hr0 hc0 hn hwf
  · exact drop_ok A0 c0 l0 s j w hj he hr0 hc0 hn hwf
end Ca
end Go.Proofs.Ytjpnbhcoagnpjaa
