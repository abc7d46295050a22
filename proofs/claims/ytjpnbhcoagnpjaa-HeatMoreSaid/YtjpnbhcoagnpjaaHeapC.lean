/- container/heap over the queue: up, down, Push, Pop. -/
import Derived.Test.YtjpnbhcoagnpjaaHeapB
namespace Go.Proofs.Ytjpnbhcoagnpjaa
open Go.RowKit Go.Proofs.YtjpnbhcoagnpjaaW.PrintWords Go.Proofs.YtjpnbhcoagnpjaaW.PrintLast Go.Proofs.YtjpnbhcoagnpjaaW.PrintMore
open Go.Proofs.Ytjpnbhcoagnpjaa.PHeatPicks
open HeapPure (swp upL dnL kid)
set_option linter.unusedVariables false
set_option linter.unusedSimpArgs false

theorem wrapchk (ts : Array TypeId) (t : TypeId) (a : Addr) (x y : String) : Builtin.ssaWrapNilChk_ ts t #[.pointer (some a), strVal x, strVal y] = pure (.pointer (some a)) := rfl
theorem meth_val (k : Nat) (name : String) (f : Nat) (qa : Nat) (v : Value) (W : World) (h : W.cell? ⟨qa, 0, none⟩ = some v)
    (h2 : (((Try.prog.info? 69).getD default).methods.find? (·.name == name)).map (fun m => (m.path.toList.length, m.func)) = some (0, some (f, false))) :
    (method (k + 1) 69 (.pointer (some ⟨qa, 0, none⟩)) name).run Try.prog W = .ok (f, v) W := by
  have h1 : (typeInfo 69).run Try.prog W = .ok ((Try.prog.info? 69).getD default) W := by kernel_rfl
  unfold method
  simp only [Sem.run_bind, h1, Result.andThen_ok]
  obtain ⟨m, hm, hm2⟩ := Option.map_eq_some_iff.1 h2
  simp only [Prod.mk.injEq] at hm2
  have hp : m.path.toList = [] := List.eq_nil_of_length_eq_zero hm2.1
  simp only [hm, hp, hm2.2, follow, Sem.run_bind, Sem.run_pure, Result.andThen_ok, receiverAt, run_underlying Try.underlying69]
  cases m.path.isEmpty <;> simp [Place.get, wrapchk, asAddr, loadVar, h]
theorem meth_ptr (k : Nat) (name : String) (f : Nat) (qa : Nat) (W : World)
    (h2 : (((Try.prog.info? 69).getD default).methods.find? (·.name == name)).map (fun m => (m.path.toList.length, m.func)) = some (0, some (f, true))) :
    (method (k + 1) 69 (.pointer (some ⟨qa, 0, none⟩)) name).run Try.prog W = .ok (f, .pointer (some ⟨qa, 0, none⟩)) W := by
  have h1 : (typeInfo 69).run Try.prog W = .ok ((Try.prog.info? 69).getD default) W := by kernel_rfl
  unfold method
  simp only [Sem.run_bind, h1, Result.andThen_ok]
  obtain ⟨m, hm, hm2⟩ := Option.map_eq_some_iff.1 h2
  simp only [Prod.mk.injEq] at hm2
  have hp : m.path.toList = [] := List.eq_nil_of_length_eq_zero hm2.1
  simp only [hm, hp, hm2.2, follow, Sem.run_bind, Sem.run_pure, Result.andThen_ok, receiverAt, run_underlying Try.underlying69]
  cases m.path.isEmpty <;> simp [Place.get]
section
variable {qa : Nat} {v : Value} {W : World}
theorem m_less (h : W.cell? ⟨qa, 0, none⟩ = some v) : (method 212 69 (.pointer (some ⟨qa, 0, none⟩)) "Less").run Try.prog W = .ok (69, v) W := meth_val _ _ _ _ _ _ h (by kernel_rfl)
theorem m_swap (h : W.cell? ⟨qa, 0, none⟩ = some v) : (method 212 69 (.pointer (some ⟨qa, 0, none⟩)) "Swap").run Try.prog W = .ok (72, v) W := meth_val _ _ _ _ _ _ h (by kernel_rfl)
theorem m_len (h : W.cell? ⟨qa, 0, none⟩ = some v) : (method 212 69 (.pointer (some ⟨qa, 0, none⟩)) "Len").run Try.prog W = .ok (37, v) W := meth_val _ _ _ _ _ _ h (by kernel_rfl)
theorem m_push (qa : Nat) (W : World) : (method 212 69 (.pointer (some ⟨qa, 0, none⟩)) "Push").run Try.prog W = .ok (71, .pointer (some ⟨qa, 0, none⟩)) W := meth_ptr _ _ _ _ _ (by kernel_rfl)
theorem m_pop (qa : Nat) (W : World) : (method 212 69 (.pointer (some ⟨qa, 0, none⟩)) "Pop").run Try.prog W = .ok (70, .pointer (some ⟨qa, 0, none⟩)) W := meth_ptr _ _ _ _ _ (by kernel_rfl)
end

theorem lessQ (F : Fr) (v : Value) (xs : List S35) (i j : Int) (w : World) (h : w.ownsRow 0 35 3 v xs.length (flat xs)) (hi0 : 0 ≤ i) (hi : i < xs.length) (hj0 : 0 ≤ j) (hj : j < xs.length) (hn : xs.length ≤ 1000000) :
    Calls Try.prog 69 #[v, .int .i64 i, .int .i64 j] w fun e w' => e = .returned (.bool (ahd (xs.getD i.toNat z35) (xs.getD j.toNat z35))) ∧ Below w.heap.size w w' := by
  obtain ⟨i, rfl⟩ := Int.eq_ofNat_of_zero_le hi0
  obtain ⟨j, rfl⟩ := Int.eq_ofNat_of_zero_le hj0
  exact less_calls 0 v xs i j w h (by omega) (by omega) hn
theorem swapQ (F : Fr) (qa : Nat) (v : Value) (xs : List S35) (i j : Int) (w : World) (h : w.ownsRow 0 35 3 v xs.length (flat xs)) (hq : w.heap[qa]? = some (.cells #[v] 70 (0, 0))) (hl : ¬ F.prot qa ∧ ∀ k, v.ownBlock = some k → ¬ F.prot k) (hB : F.Ok w)
    (hi0 : 0 ≤ i) (hi : i < xs.length) (hj0 : 0 ≤ j) (hj : j < xs.length) (hn : xs.length ≤ 1000000) :
    Calls Try.prog 72 #[v, .int .i64 i, .int .i64 j] w fun e w' => e = .returned (.tuple #[]) ∧ HQ F w' qa (swp z35 xs i.toNat j.toNat) := by
  obtain ⟨i, rfl⟩ := Int.eq_ofNat_of_zero_le hi0
  obtain ⟨j, rfl⟩ := Int.eq_ofNat_of_zero_le hj0
  refine (swap_calls 0 v xs i j w h (by omega) (by omega) hn).mono ?_
  rintro e w' ⟨he, ho, hg⟩
  refine ⟨he, ⟨⟨v, ?_, blk_grown hq hg (own_ne h hq), hl, hB.grown hg hl.2⟩⟩⟩
  rw [HeapPure.swp_length]
  exact ho

set_option maxHeartbeats 2000000 in
theorem up_calls (F : Fr) (xs : List S35) (qa j : Nat) (w : World) (h : HQ F w qa xs) (hj : j < xs.length) (hn : xs.length ≤ 1000000) :
    Calls Try.prog 47 #[.iface 69 (.pointer (some ⟨qa, 0, none⟩)), .int .i64 j] w fun e w' => e = .returned (.tuple #[]) ∧ HQ F w' qa (upL z35 ahd (j + 1) xs j) := by
  have H := Aside0.mk h
  clear h
  go_enter Try.func47, Try.ntmps47
  go_wp2_with fail
  go_loopw [1] (fun i wr => ∃ (j' k : Nat) (ys : List S35), i = .int .i64 j' ∧ j' < ys.length ∧ ys.length ≤ 1000000 ∧ j' < k ∧ Aside0 (HQ F wr qa ys) ∧ Aside0 (upL z35 ahd k ys j' = upL z35 ahd (j + 1) xs j)) (fun i _ => (intOf i).toNat)
  case atStart => exact ⟨j, j + 1, xs, rfl, hj, hn, by omega, H, ⟨rfl⟩⟩
  case round =>
    obtain ⟨j', k, ys, rfl, hj', hn', hk, HY, HE⟩ := hrel
    obtain ⟨k, rfl⟩ : ∃ m, k = m + 1 := ⟨k - 1, by omega⟩
    by_cases h0 : j' = 0
    · subst h0
      go_wp2_with fail
      go_end0
      have he := HE.out
      rw [upL, if_pos (by decide)] at he
      exact ⟨rfl, he ▸ HY.out⟩
    · obtain ⟨v, ho, hq, hl, hB⟩ := HY.out
      have he := HE.out
      rw [upL, if_neg (by omega)] at he
      have HE := Aside0.mk he
      have HO := Aside0.mk ho
      have HQ1 := Aside0.mk hq
      have HB := Aside0.mk hB
      clear he ho hq hB
      have hm := m_less (W := wr) (v := v) (qa := qa) (blk_cell HQ1.out 0)
      have h1 : 1 ≤ (j' : Int) := by omega
      have h2 : (((j' : Int) - 1) / 2 == (j' : Int)) = false := by rw [beq_eq_false_iff_ne]; omega
      go_wp2_with fail
      refine (lessQ F v ys _ _ wr HO.out (by omega) (by omega) (by omega) (by omega) hn').mono ?_
      rintro e w2 ⟨rfl, hb2⟩
      rw [Int.toNat_natCast, show (((j' : Int) - 1) / 2).toNat = (j' - 1) / 2 by omega]
      have HB2 := Aside0.mk hb2
      clear hb2 hm
      have HO2 := Aside0.mk (pw_own_below HO.out HB2.out)
      have HQ2 := Aside0.mk (blk_below HQ1.out HB2.out)
      have HBB := Aside0.mk (HB.out.below HB2.out)
      clear HO HQ1 HB
      have hm := m_swap (W := w2) (v := v) (qa := qa) (blk_cell HQ2.out 0)
      cases hlt : ahd (ys.getD j' z35) (ys.getD ((j' - 1) / 2) z35)
      · have HL := Aside0.mk hlt
        clear hlt
        go_wp2_with fail
        go_end0
        have he := HE.out
        rw [HL.out] at he
        simp only [Bool.false_eq_true, if_false] at he
        exact ⟨rfl, he ▸ ⟨⟨v, HO2.out, HQ2.out, hl, HBB.out⟩⟩⟩
      · have HL := Aside0.mk hlt
        clear hlt
        go_wp2_with fail
        refine (swapQ F qa v ys _ _ w2 HO2.out HQ2.out hl HBB.out (by omega) (by omega) (by omega) (by omega) hn').mono ?_
        rintro e w3 ⟨rfl, hq3⟩
        rw [Int.toNat_natCast, show (((j' : Int) - 1) / 2).toNat = (j' - 1) / 2 by omega] at hq3
        have HQ3 := Aside0.mk hq3
        clear hq3 hm
        go_wp2_with fail
        go_roundw
        case rel =>
          have he := HE.out
          rw [HL.out] at he
          simp only [if_true] at he
          refine ⟨(j' - 1) / 2, k, _, by congr 1; omega, by rw [HeapPure.swp_length]; omega, by rw [HeapPure.swp_length]; exact hn', by omega, HQ3, ⟨he⟩⟩
        case measure => simp [intOf]; omega
end Go.Proofs.Ytjpnbhcoagnpjaa
