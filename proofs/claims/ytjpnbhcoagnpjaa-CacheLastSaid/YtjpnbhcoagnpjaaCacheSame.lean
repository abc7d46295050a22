/- ref.Same of lines; few. -/
import Derived.Test.YtjpnbhcoagnpjaaCacheAwake
namespace Go.Proofs.Ytjpnbhcoagnpjaa
namespace Ca
open Go.RowKit Go.Proofs.YtjpnbhcoagnpjaaW.PrintWords Go.Proofs.YtjpnbhcoagnpjaaW.PrintLast Go.Proofs.YtjpnbhcoagnpjaaW.PrintMore
open Go.Proofs.Ytjpnbhcoagnpjaa.PCacheTells
set_option linter.unusedVariables false
set_option linter.unusedSimpArgs false

def sameL : List S56 → List S56 → Bool
  | [], [] => true
  | x :: r, y :: s => eqL x y && sameL r s
  | _, _ => false
theorem eqL_iff (x y : S56) : eqL x y = true ↔ x = y := by
  cases x
  cases y
  simp [eqL]
theorem sameL_iff : ∀ l m : List S56, sameL l m = true ↔ l = m
  | [], [] => by simp [sameL]
  | [], _ :: _ => by simp [sameL]
  | _ :: _, [] => by simp [sameL]
  | x :: r, y :: s => by simp [sameL, eqL_iff, sameL_iff r s]
theorem sameL_self (l : List S56) : sameL l l = true := (sameL_iff l l).2 rfl
set_option maxHeartbeats 1000000 in
theorem same_calls (v0 v1 : Value) (l0 l1 : List S56) (w : World) (h0 : Rl w v0 l0) (h1 : Rl w v1 l1) (hn : l0.length ≤ 1000000) :
    Calls Try.prog 31 #[v0, v1] w fun e w' => e = .returned (.bool (sameL l0 l1)) ∧ Drawn0 w w' := by
  obtain ⟨⟨A0, c0, rfl, hc0, hr0⟩⟩ := h0
  obtain ⟨⟨A1, c1, rfl, hc1, hr1⟩⟩ := h1
  have HR0 := Aside0.mk hr0
  have HR1 := Aside0.mk hr1
  clear hr0 hr1
  by_cases hl : l0.length = l1.length
  · have hlb : (l0.length == l1.length) = true := by simpa using hl
    have hlb2 : ((l0.length : Int) != (l1.length : Int)) = false := by simp; omega
    have HL := Aside0.mk hl
    clear hl
    go_enter Try.func31, Try.ntmps31
    go_wp2_with fail
    go_loopw [5] (fun i wr => ∃ k : Nat, i = .int .i64 k ∧ k ≤ l0.length ∧ Drawn0 w wr ∧ Aside0 (sameL (l0.drop k) (l1.drop k) = sameL l0 l1)) (fun i _ => l0.length - (intOf i).toNat)
    case atStart => exact ⟨0, rfl, Nat.zero_le _, Drawn0.refl _, ⟨rfl⟩⟩
    case round =>
      obtain ⟨k, rfl, hk, ⟨m, rfl⟩, HE⟩ := hrel
      by_cases hlt : k < l0.length
      · have hlt1 : k < l1.length := by have := HL.out; omega
        obtain ⟨ad, rfl, hx0, hx1, hx2⟩ := at_T56 HR0.out k (by omega) (by omega)
        obtain ⟨ad1, rfl, hy0, hy1, hy2⟩ := at_T56 HR1.out k (by omega) (by omega)
        rw [Int.toNat_natCast] at hx0 hx1 hx2 hy0 hy1 hy2
        have he := HE.out
        rw [drop_cons hlt, drop_cons hlt1, sameL] at he
        generalize rd_T56 l0 k = x at *
        generalize rd_T56 l1 k = y at *
        have HE := Aside0.mk he
        clear he
        have hne := fun W => neq56 W x y
        cases hxy : eqL x y
        · rw [hxy] at hne HE
          clear hxy
          simp only [Bool.not_false] at hne
          go_wp2_with fail
          go_quiet (fail)
          go_wp2_with fail
          go_ret
          exact ⟨ret_bool HE.out, Drawn0.step (Drawn0.step (Drawn0.refl _) _) _⟩
        · rw [hxy] at hne HE
          clear hxy
          simp only [Bool.not_true] at hne
          go_wp2_with fail
          go_quiet (fail)
          go_wp2_with fail
          go_roundw
          case rel => exact ⟨k + 1, by go_num, by omega, Drawn0.step (Drawn0.refl _) _, ⟨by rw [← HE.out]; rfl⟩⟩
          case measure => simp [intOf]; omega
      · go_wp2_with fail
        go_ret
        have he := HE.out
        rw [List.drop_of_length_le (by omega), List.drop_of_length_le (by have := HL.out; omega)] at he
        exact ⟨ret_bool he, Drawn0.step (Drawn0.refl _) _⟩
  · have hlb : (l0.length == l1.length) = false := by simpa using hl
    have hlb2 : ((l0.length : Int) != (l1.length : Int)) = true := by simp; omega
    have hs : sameL l0 l1 = false := by
      cases e : sameL l0 l1
      · rfl
      · rw [(sameL_iff _ _).1 e] at hl
        exact absurd rfl hl
    have HS := Aside0.mk hs
    clear hl hs
    go_enter Try.func31, Try.ntmps31
    go_wp2_with fail
    go_ret
    exact ⟨ret_bool HS.out.symm, Drawn0.refl _⟩


def fewN (n : Nat) : Nat := if 40 < n then (if n ≤ 256 then 40 else if 257 < n then 257 else n) else n
def fewL (l : List S56) : List S56 := l.take (fewN l.length)
theorem fewN_le (n : Nat) : fewN n ≤ n ∧ fewN n ≤ 257 := by
  unfold fewN
  split
  · split
    · omega
    · split <;> omega
  · omega
theorem fewL_len (l : List S56) : (fewL l).length = fewN l.length := by
  rw [fewL, List.length_take]
  have := (fewN_le l.length).1
  omega
theorem few_C {w : World} {A : Option Addr} {l : List S56} (h : Kd.C k56 w A l.length l) : Kd.C k56 w A (fewL l).length (fewL l) := by
  exact Kd.C_take h (fewN_le _).1
theorem few_calls (A : Option Addr) (n c : Nat) (hc : n ≤ c) (w : World) :
    Calls Try.prog 18 #[.slice A n c] w fun e w' => e = .returned (.slice A (fewN n) c) ∧ w' = w := by
  by_cases h1 : 40 < n
  · by_cases h2 : n ≤ 256
    · have hf : fewN n = 40 := by rw [fewN, if_pos h1, if_pos h2]
      rw [hf]
      clear hf
      have h41 : (40 : Int) ≤ (c : Int) := by omega
      have d1 : decide ((40 : Int) < (n : Int)) = true := decide_eq_true (by omega)
      have d2 : decide ((n : Int) ≤ 256) = true := decide_eq_true (by omega)
      go_enter Try.func18, Try.ntmps18
      go_wp2_with fail
      go_ret
      exact ⟨rfl, rfl⟩
    · have d1 : decide ((40 : Int) < (n : Int)) = true := decide_eq_true (by omega)
      have d2 : decide ((n : Int) ≤ 256) = false := decide_eq_false (by omega)
      by_cases h3 : 257 < n
      · have hf : fewN n = 257 := by rw [fewN, if_pos h1, if_neg h2, if_pos h3]
        rw [hf]
        clear hf
        have h41 : (257 : Int) ≤ (c : Int) := by omega
        have d3 : decide ((257 : Int) < (n : Int)) = true := decide_eq_true (by omega)
        go_enter Try.func18, Try.ntmps18
        go_wp2_with fail
        go_ret
        exact ⟨rfl, rfl⟩
      · have hf : fewN n = n := by rw [fewN, if_pos h1, if_neg h2, if_neg h3]
        rw [hf]
        clear hf
        have d3 : decide ((257 : Int) < (n : Int)) = false := decide_eq_false (by omega)
        go_enter Try.func18, Try.ntmps18
        go_wp2_with fail
        go_ret
        exact ⟨rfl, rfl⟩
  · have hf : fewN n = n := by rw [fewN, if_neg h1]
    rw [hf]
    clear hf
    have d1 : decide ((40 : Int) < (n : Int)) = false := decide_eq_false (by omega)
    have d3 : decide ((257 : Int) < (n : Int)) = false := decide_eq_false (by omega)
    go_enter Try.func18, Try.ntmps18
    go_wp2_with fail
    go_ret
    exact ⟨rfl, rfl⟩
end Ca
end Go.Proofs.Ytjpnbhcoagnpjaa
