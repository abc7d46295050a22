/- ref.Same, few, heat.Colder. -/
import Derived.Test.YtjpnbhcoagnpjaaHeatRef
import Derived.Test.YtjpnbhcoagnpjaaPHeatPicksx1
namespace Go.Proofs.Ytjpnbhcoagnpjaa
open Go.RowKit Go.Proofs.YtjpnbhcoagnpjaaW.PrintWords Go.Proofs.YtjpnbhcoagnpjaaW.PrintLast Go.Proofs.YtjpnbhcoagnpjaaW.PrintMore
open Go.Proofs.Ytjpnbhcoagnpjaa.PHeatPicks
set_option linter.unusedVariables false
set_option linter.unusedSimpArgs false

def eqH (x y : S35) : Bool := x.f0 == y.f0 && (x.f1 == y.f1 && (x.f2 == y.f2))
def sameR : List S35 → List S35 → Bool
  | [], [] => true
  | x :: r, y :: s => eqH x y && sameR r s
  | _, _ => false
theorem eqH_iff (x y : S35) : eqH x y = true ↔ x = y := by
  cases x
  cases y
  simp [eqH]
theorem sameR_iff : ∀ l m : List S35, sameR l m = true ↔ l = m
  | [], [] => by simp [sameR]
  | [], _ :: _ => by simp [sameR]
  | _ :: _, [] => by simp [sameR]
  | x :: r, y :: s => by simp [sameR, eqH_iff, sameR_iff r s]
theorem sameR_self (l : List S35) : sameR l l = true := (sameR_iff l l).2 rfl
theorem neq35 (W : World) (x y : S35) : (binOp .neq 35 (.agg #[.int .i64 x.f0, .int .i64 x.f1, .int .i64 x.f2]) (.agg #[.int .i64 y.f0, .int .i64 y.f1, .int .i64 y.f2])).run Try.prog W = .ok (.bool (!eqH x y)) W := by
  have h := eqA35 9998 W x.f0 y.f0 x.f1 y.f1 x.f2 y.f2
  simp only [binOp]
  simp [Op.equal, Op.maxDepth, h, eqH]
set_option maxHeartbeats 1000000 in
theorem same_calls (v0 v1 : Value) (l0 l1 : List S35) (w : World) (h0 : Rd w v0 l0) (h1 : Rd w v1 l1) (hn : l0.length ≤ 1000000) :
    Calls Try.prog 13 #[v0, v1] w fun e w' => e = .returned (.bool (sameR l0 l1)) ∧ Drawn0 w w' := by
  obtain ⟨⟨A0, c0, rfl, hc0, hr0⟩⟩ := h0
  obtain ⟨⟨A1, c1, rfl, hc1, hr1⟩⟩ := h1
  have HR0 := Aside0.mk hr0
  have HR1 := Aside0.mk hr1
  clear hr0 hr1
  by_cases hl : l0.length = l1.length
  · have hlb : (l0.length == l1.length) = true := by simpa using hl
    have hlb2 : ((l0.length : Int) != (l1.length : Int)) = false := by simp; omega
    have HL := Aside0.mk hl
    clear hl
    go_enter Try.func13, Try.ntmps13
    go_wp2_with fail
    go_loopw [5] (fun i wr => ∃ k : Nat, i = .int .i64 k ∧ k ≤ l0.length ∧ Drawn0 w wr ∧ Aside0 (sameR (l0.drop k) (l1.drop k) = sameR l0 l1)) (fun i _ => l0.length - (intOf i).toNat)
    case atStart => exact ⟨0, rfl, Nat.zero_le _, Drawn0.refl _, ⟨rfl⟩⟩
    case round =>
      obtain ⟨k, rfl, hk, ⟨m, rfl⟩, HE⟩ := hrel
      by_cases hlt : k < l0.length
      · have hlt1 : k < l1.length := by have := HL.out; omega
        obtain ⟨ad, rfl, hx0, hx1, hx2⟩ := at_T35 HR0.out k (by omega) (by omega)
        obtain ⟨ad1, rfl, hy0, hy1, hy2⟩ := at_T35 HR1.out k (by omega) (by omega)
        rw [Int.toNat_natCast] at hx0 hx1 hx2 hy0 hy1 hy2
        have he := HE.out
        rw [drop_cons hlt, drop_cons hlt1, sameR] at he
        generalize rd_T35 l0 k = x at *
        generalize rd_T35 l1 k = y at *
        have HE := Aside0.mk he
        clear he
        have hne := fun W => neq35 W x y
        cases hxy : eqH x y
        · rw [hxy] at hne HE
          clear hxy
          simp only [Bool.not_false] at hne
          go_wp2_with fail
          go_quiet (fail)
          go_wp2_with fail
          go_ret
          exact ⟨ret_bool HE.out, Drawn0.step (Drawn0.step (Drawn0.refl _) _) _⟩
        · rw [hxy] at hne HE
          clear hxy
          simp only [Bool.not_true] at hne
          go_wp2_with fail
          go_quiet (fail)
          go_wp2_with fail
          go_roundw
          case rel => exact ⟨k + 1, by go_num, by omega, Drawn0.step (Drawn0.refl _) _, ⟨by rw [← HE.out]; rfl⟩⟩
          case measure => simp [intOf]; omega
      · go_wp2_with fail
        go_ret
        have he := HE.out
        rw [List.drop_of_length_le (by omega), List.drop_of_length_le (by have := HL.out; omega)] at he
        exact ⟨ret_bool he, Drawn0.step (Drawn0.refl _) _⟩
  · have hlb : (l0.length == l1.length) = false := by simpa using hl
    have hlb2 : ((l0.length : Int) != (l1.length : Int)) = true := by simp; omega
    have hs : sameR l0 l1 = false := by
      cases e : sameR l0 l1
      · rfl
      · rw [(sameR_iff _ _).1 e] at hl
        exact absurd rfl hl
    have HS := Aside0.mk hs
    clear hl hs
    go_enter Try.func13, Try.ntmps13
    go_wp2_with fail
    go_ret
    exact ⟨ret_bool HS.out.symm, Drawn0.refl _⟩

def fewL (l : List S35) : List S35 := if 41 < l.length then l.take 41 else l
theorem fewL_length (l : List S35) : (fewL l).length ≤ 41 := by
  unfold fewL
  split
  · exact List.length_take_le _ _
  · omega
theorem Rd.take {w : World} {A : Option Addr} {c : Nat} {xs : List S35} (h : Kd.C k35 w A xs.length xs) (hc : xs.length ≤ c) (m : Nat) (hm : m ≤ xs.length) : Rd w (.slice A m c) (xs.take m) := by
  have hl : (xs.take m).length = m := by rw [List.length_take]; omega
  exact ⟨⟨A, c, by rw [hl], by omega, Kd.C_take h hm⟩⟩
theorem few_calls (v : Value) (l : List S35) (w : World) (h : Rd w v l) :
    Calls Try.prog 10 #[v] w fun e w' => ∃ v', e = .returned v' ∧ Rd w v' (fewL l) ∧ w = w' := by
  obtain ⟨⟨A, c, rfl, hc, hr⟩⟩ := h
  have HR := Aside0.mk hr
  clear hr
  by_cases hl : 41 < l.length
  · have hf : fewL l = l.take 41 := by rw [fewL, if_pos hl]
    rw [hf]
    clear hf
    have h41 : (41 : Int) ≤ (c : Int) := by omega
    go_enter Try.func10, Try.ntmps10
    go_wp2_with fail
    go_ret
    exact ⟨_, rfl, Rd.take HR.out hc 41 (by omega), rfl⟩
  · have hf : fewL l = l := by rw [fewL, if_neg hl]
    rw [hf]
    clear hf
    go_enter Try.func10, Try.ntmps10
    go_wp2_with fail
    go_ret
    exact ⟨_, rfl, ⟨⟨A, c, rfl, hc, HR.out⟩⟩, rfl⟩
end Go.Proofs.Ytjpnbhcoagnpjaa
