/- cache.Put, Pin, Drop. -/
import Derived.Test.YtjpnbhcoagnpjaaCacheWrite
namespace Go.Proofs.Ytjpnbhcoagnpjaa
namespace Ca
open Go.RowKit Go.Proofs.YtjpnbhcoagnpjaaW.PrintWords Go.Proofs.YtjpnbhcoagnpjaaW.PrintLast Go.Proofs.YtjpnbhcoagnpjaaW.PrintMore
open Go.Proofs.Ytjpnbhcoagnpjaa.PCacheTells
set_option linter.unusedVariables false
set_option linter.unusedSimpArgs false

def putP (l : List S56) (i s t : Int) : List S56 × Int :=
  if (findP l s).2 = 1 then ([], 1)
  else if i < 0 ∨ (l.length : Int) ≤ i then ([], 4)
  else if s < 0 ∨ inB t 2147483647 = false then ([], 1)
  else if (findP l s).2 = 0 then ([], 7)
  else if 0 < (rd_T56 l i).f2 then ([], 18)
  else (l.set i.toNat ⟨s, t, 0⟩, 0)
def PutPost (l : List S56) (i s t : Int) (w : World) (e : Ending) (w' : World) : Prop :=
  ∃ v, e = .returned (.tuple #[v, .int .i64 (putP l i s t).2]) ∧ Rl w' v (putP l i s t).1 ∧ Below w.heap.size w w'
theorem PutPost.err {l : List S56} {i s t c : Int} {w w' : World} (h : putP l i s t = ([], c)) (hb : Below w.heap.size w w') : PutPost l i s t w (.returned (.tuple #[.slice none 0 0, .int .i64 c])) w' := by
  rw [PutPost, h]
  exact ⟨_, rfl, Rl.nil _, hb⟩
set_option maxHeartbeats 4000000 in
theorem put_calls (A0 : Option Addr) (c0 : Nat) (l0 : List S56) (i s t : Int) (w : World) (hr0 : Kd.C k56 w A0 l0.length l0) (hc0 : l0.length ≤ c0) (hn : l0.length ≤ 1000000) (hwf : ∀ x ∈ l0, (Lit.int .i64 x.f0).wf = true) :
    Calls Try.prog 28 #[.slice A0 l0.length c0, .int .i64 i, .int .i64 s, .int .i64 t] w (PutPost l0 i s t w) := by
  have HF := Aside0.mk (find_calls A0 c0 l0 s w hr0 hc0 hn hwf)
  have HR0 := Aside0.mk hr0
  have HT := Aside0.mk (tick_calls t)
  clear hwf hr0
  rcases findP_cases l0 s with ⟨he, _⟩ | ⟨he, _⟩ | ⟨j, _, he, _⟩
  · have HP : Aside0 (putP l0 i s t = ([], 1)) := ⟨by rw [putP, he]; rfl⟩
    rw [he] at HF
    clear he
    go_enter Try.func28, Try.ntmps28
    go_wp2_with fail
    refine HF.out.mono ?_
    rintro e w1 ⟨rfl, hb⟩
    have HB := Aside0.mk hb
    clear hb HF
    go_wp2_with fail
    go_ret2
    exact PutPost.err HP.out HB.out
  · rw [he] at HF
    by_cases hi0 : i < 0
    · have HP : Aside0 (putP l0 i s t = ([], 4)) := ⟨by rw [putP, he]; simp [hi0]⟩
      have d0 : decide (i < 0) = true := decide_eq_true hi0
      clear he hi0
      go_enter Try.func28, Try.ntmps28
      go_wp2_with fail
      refine HF.out.mono ?_
      rintro e w1 ⟨rfl, hb⟩
      have HB := Aside0.mk hb
      clear hb HF
      go_wp2_with fail
      go_ret2
      exact PutPost.err HP.out HB.out
    · by_cases hi1 : (l0.length : Int) ≤ i
      · have HP : Aside0 (putP l0 i s t = ([], 4)) := ⟨by rw [putP, he]; simp [hi1]⟩
        have d0 : decide (i < 0) = false := decide_eq_false hi0
        have d1 : decide ((l0.length : Int) ≤ i) = true := decide_eq_true hi1
        clear he hi0 hi1
        go_enter Try.func28, Try.ntmps28
        go_wp2_with fail
        refine HF.out.mono ?_
        rintro e w1 ⟨rfl, hb⟩
        have HB := Aside0.mk hb
        clear hb HF
        go_wp2_with fail
        go_ret2
        exact PutPost.err HP.out HB.out
      · by_cases hs : s < 0
        · have HP : Aside0 (putP l0 i s t = ([], 1)) := ⟨by rw [putP, he]; simp [hi0, hi1, hs]⟩
          have d0 : decide (i < 0) = false := decide_eq_false hi0
          have d1 : decide ((l0.length : Int) ≤ i) = false := decide_eq_false hi1
          have d2 : decide (s < 0) = true := decide_eq_true hs
          clear he hi0 hi1 hs
          go_enter Try.func28, Try.ntmps28
          go_wp2_with fail
          refine HF.out.mono ?_
          rintro e w1 ⟨rfl, hb⟩
          have HB := Aside0.mk hb
          clear hb HF
          go_wp2_with fail
          go_ret2
          exact PutPost.err HP.out HB.out
        · cases ht : inB t 2147483647
          · have HP : Aside0 (putP l0 i s t = ([], 1)) := ⟨by rw [putP, he, ht]; simp [hi0, hi1, hs]⟩
            have d0 : decide (i < 0) = false := decide_eq_false hi0
            have d1 : decide ((l0.length : Int) ≤ i) = false := decide_eq_false hi1
            have d2 : decide (s < 0) = false := decide_eq_false hs
            rw [ht] at HT
            clear he hi0 hi1 hs ht
            go_enter Try.func28, Try.ntmps28
            go_wp2_with fail
            refine HF.out.mono ?_
            rintro e w1 ⟨rfl, hb⟩
            have HB := Aside0.mk hb
            clear hb HF
            go_wp2_with fail
            refine (HT.out _).mono ?_
            rintro e w3 ⟨rfl, ⟨nd, rfl⟩⟩
            go_wp2_with fail
            go_ret2
            exact PutPost.err HP.out (pw_below_drewN HB.out nd)
          · rw [ht] at HT
            obtain ⟨k, rfl⟩ : ∃ k : Nat, i = (k : Int) := ⟨i.toNat, by omega⟩
            have hk : k < l0.length := by omega
            have d0 : decide ((k : Int) < 0) = false := decide_eq_false hi0
            have d1 : decide ((l0.length : Int) ≤ (k : Int)) = false := decide_eq_false hi1
            have d2 : decide (s < 0) = false := decide_eq_false hs
            by_cases hp : 0 < (rd_T56 l0 k).f2
            · have HP : Aside0 (putP l0 k s t = ([], 18)) := ⟨by rw [putP, he, ht]; simp only [hs, hp]; rw [if_neg (by simp), if_neg (by omega), if_neg (by simp), if_neg (by simp), if_pos trivial]⟩
              have d3 : decide (0 < (rd_T56 l0 k).f2) = true := decide_eq_true hp
              obtain ⟨X, hX⟩ : ∃ X, X = rd_T56 l0 k := ⟨_, rfl⟩
              rw [← hX] at d3
              have HX := Aside0.mk hX
              clear he hi0 hi1 hs ht hp hX
              have hj0 : (0 : Int) ≤ (k : Int) := by omega
              have hj1 : (k : Int) < (l0.length : Int) := by omega
              go_enter Try.func28, Try.ntmps28
              go_wp2_with fail
              refine HF.out.mono ?_
              rintro e w1 ⟨rfl, hb⟩
              have HB := Aside0.mk hb
              obtain ⟨ad, rfl, hx0, hx1, hx2⟩ := at_T56 (Kd.C_below HR0.out hb) k (by omega) (by omega)
              rw [Int.toNat_natCast] at hx0 hx1 hx2
              rw [← HX.out] at hx0 hx1 hx2
              clear hb HF HR0 HX
              go_wp2_with fail
              refine (HT.out _).mono ?_
              rintro e w3 ⟨rfl, ⟨nd, rfl⟩⟩
              go_wp2_with fail
              go_ret2
              exact PutPost.err HP.out (pw_below_drewN HB.out nd)
            · have HP : Aside0 (putP l0 k s t = (l0.set k ⟨s, t, 0⟩, 0)) := ⟨by rw [putP, he, ht]; simp only [hs, hp]; rw [if_neg (by simp), if_neg (by omega), if_neg (by simp), if_neg (by simp), if_neg (by simp)]; simp⟩
              have d3 : decide (0 < (rd_T56 l0 k).f2) = false := decide_eq_false hp
              obtain ⟨X, hX⟩ : ∃ X, X = rd_T56 l0 k := ⟨_, rfl⟩
              rw [← hX] at d3
              have HX := Aside0.mk hX
              clear he hi0 hi1 hs ht hp hX
              have hj0 : (0 : Int) ≤ (k : Int) := by omega
              have hj1 : (k : Int) < (l0.length : Int) := by omega
              go_enter Try.func28, Try.ntmps28
              go_wp2_with fail
              refine HF.out.mono ?_
              rintro e w1 ⟨rfl, hb⟩
              have HB := Aside0.mk hb
              have HR1 := Aside0.mk (Kd.C_below HR0.out hb)
              obtain ⟨ad, rfl, hx0, hx1, hx2⟩ := at_T56 HR1.out k (by omega) (by omega)
              rw [Int.toNat_natCast] at hx0 hx1 hx2
              rw [← HX.out] at hx0 hx1 hx2
              clear hb HF HR0 HX
              go_wp2_with fail
              refine (HT.out _).mono ?_
              rintro e w3 ⟨rfl, ⟨nd, rfl⟩⟩
              go_wp2_with fail
              refine (with_calls _ c0 l0 k ⟨s, t, 0⟩ _ (Kd.C_below HR1.out (pw_below_drewN (Below.refl _ _) nd)) hk hn).mono ?_
              rintro e w4 ⟨v, rfl, hv, hb⟩
              have HV := Aside0.mk hv
              have HB4 := Aside0.mk (below_then (pw_below_drewN HB.out nd) HB.out.size hb)
              clear hv hb
              go_wp2_with fail
              go_ret2
              rw [PutPost, HP.out]
              exact ⟨_, rfl, HV.out, HB4.out⟩
  · rw [he] at HF
    by_cases hi0 : i < 0
    · have HP : Aside0 (putP l0 i s t = ([], 4)) := ⟨by rw [putP, he]; simp [hi0]⟩
      have d0 : decide (i < 0) = true := decide_eq_true hi0
      clear he hi0
      go_enter Try.func28, Try.ntmps28
      go_wp2_with fail
      refine HF.out.mono ?_
      rintro e w1 ⟨rfl, hb⟩
      have HB := Aside0.mk hb
      clear hb HF
      go_wp2_with fail
      go_ret2
      exact PutPost.err HP.out HB.out
    · by_cases hi1 : (l0.length : Int) ≤ i
      · have HP : Aside0 (putP l0 i s t = ([], 4)) := ⟨by rw [putP, he]; simp [hi1]⟩
        have d0 : decide (i < 0) = false := decide_eq_false hi0
        have d1 : decide ((l0.length : Int) ≤ i) = true := decide_eq_true hi1
        clear he hi0 hi1
        go_enter Try.func28, Try.ntmps28
        go_wp2_with fail
        refine HF.out.mono ?_
        rintro e w1 ⟨rfl, hb⟩
        have HB := Aside0.mk hb
        clear hb HF
        go_wp2_with fail
        go_ret2
        exact PutPost.err HP.out HB.out
      · by_cases hs : s < 0
        · have HP : Aside0 (putP l0 i s t = ([], 1)) := ⟨by rw [putP, he]; simp [hi0, hi1, hs]⟩
          have d0 : decide (i < 0) = false := decide_eq_false hi0
          have d1 : decide ((l0.length : Int) ≤ i) = false := decide_eq_false hi1
          have d2 : decide (s < 0) = true := decide_eq_true hs
          clear he hi0 hi1 hs
          go_enter Try.func28, Try.ntmps28
          go_wp2_with fail
          refine HF.out.mono ?_
          rintro e w1 ⟨rfl, hb⟩
          have HB := Aside0.mk hb
          clear hb HF
          go_wp2_with fail
          go_ret2
          exact PutPost.err HP.out HB.out
        · cases ht : inB t 2147483647
          · have HP : Aside0 (putP l0 i s t = ([], 1)) := ⟨by rw [putP, he, ht]; simp [hi0, hi1, hs]⟩
            have d0 : decide (i < 0) = false := decide_eq_false hi0
            have d1 : decide ((l0.length : Int) ≤ i) = false := decide_eq_false hi1
            have d2 : decide (s < 0) = false := decide_eq_false hs
            rw [ht] at HT
            clear he hi0 hi1 hs ht
            go_enter Try.func28, Try.ntmps28
            go_wp2_with fail
            refine HF.out.mono ?_
            rintro e w1 ⟨rfl, hb⟩
            have HB := Aside0.mk hb
            clear hb HF
            go_wp2_with fail
            refine (HT.out _).mono ?_
            rintro e w3 ⟨rfl, ⟨nd, rfl⟩⟩
            go_wp2_with fail
            go_ret2
            exact PutPost.err HP.out (pw_below_drewN HB.out nd)
          · have HP : Aside0 (putP l0 i s t = ([], 7)) := ⟨by rw [putP, he, ht]; simp [hi0, hi1, hs]⟩
            have d0 : decide (i < 0) = false := decide_eq_false hi0
            have d1 : decide ((l0.length : Int) ≤ i) = false := decide_eq_false hi1
            have d2 : decide (s < 0) = false := decide_eq_false hs
            rw [ht] at HT
            clear he hi0 hi1 hs ht
            go_enter Try.func28, Try.ntmps28
            go_wp2_with fail
            refine HF.out.mono ?_
            rintro e w1 ⟨rfl, hb⟩
            have HB := Aside0.mk hb
            clear hb HF
            go_wp2_with fail
            refine (HT.out _).mono ?_
            rintro e w3 ⟨rfl, ⟨nd, rfl⟩⟩
            go_wp2_with fail
            go_ret2
            exact PutPost.err HP.out (pw_below_drewN HB.out nd)
end Ca
end Go.Proofs.Ytjpnbhcoagnpjaa
