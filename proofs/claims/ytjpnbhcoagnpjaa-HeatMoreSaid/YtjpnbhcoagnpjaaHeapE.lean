/- container/heap over the queue: Push, Pop. -/
import Derived.Test.YtjpnbhcoagnpjaaHeapD
namespace Go.Proofs.Ytjpnbhcoagnpjaa
open Go.RowKit Go.Proofs.YtjpnbhcoagnpjaaW.PrintWords Go.Proofs.YtjpnbhcoagnpjaaW.PrintLast Go.Proofs.YtjpnbhcoagnpjaaW.PrintMore
open Go.Proofs.Ytjpnbhcoagnpjaa.PHeatPicks
open HeapPure (swp upL dnL kid)
set_option linter.unusedVariables false
set_option linter.unusedSimpArgs false

theorem len_calls (A : Option Addr) (n c : Nat) (w : World) : Calls Try.prog 37 #[.slice A n c] w fun e w' => e = .returned (.int .i64 n) ∧ w = w' := by
  go_enter Try.func37, Try.ntmps37
  go_wp2_with fail
  go_ret
  exact ⟨rfl, rfl⟩

/-- What the walk wants of the queue: its value and its cell. -/
theorem HQ.look {F : Fr} {w : World} {qa : Nat} {xs : List S35} (h : HQ F w qa xs) : ∃ A c, w.cell? ⟨qa, 0, none⟩ = some (.slice A xs.length c) ∧ w.frozen? ⟨qa, 0, none⟩ = false ∧ w.ownsRow 0 35 3 (.slice A xs.length c) xs.length (flat xs) ∧ w.heap[qa]? = some (.cells #[.slice A xs.length c] 70 (0, 0)) ∧ (¬ F.prot qa ∧ ∀ k, (Value.slice A xs.length c).ownBlock = some k → ¬ F.prot k) ∧ F.Ok w := by
  obtain ⟨⟨v, ho, hq, hl, hB⟩⟩ := h
  obtain ⟨A, c, rfl⟩ := own_slice ho
  exact ⟨A, c, blk_cell hq 0, blk_frozen hq 0, ho, hq, hl, hB⟩

set_option maxHeartbeats 2000000 in
theorem hpush_calls (F : Fr) (xs : List S35) (x : S35) (qa : Nat) (w : World) (h : HQ F w qa xs) (hn : xs.length < 1000000) :
    Calls Try.prog 36 #[.iface 69 (.pointer (some ⟨qa, 0, none⟩)), .iface 35 (.agg #[.int .i64 x.f0, .int .i64 x.f1, .int .i64 x.f2])] w fun e w' => e = .returned (.tuple #[]) ∧ HQ F w' qa (HeapPure.hpush z35 ahd xs x) := by
  have H := Aside0.mk h
  clear h
  have hm := m_push qa w
  go_enter Try.func36, Try.ntmps36
  go_wp2_with fail
  refine (qpush_calls F xs x qa w H.out (by omega)).mono ?_
  rintro e w1 ⟨rfl, h1⟩
  obtain ⟨A, c, hc, _, ho, hq, _, _⟩ := h1.look
  have H1 := Aside0.mk h1
  clear h1 hm ho hq
  have hl : (xs ++ [x]).length = xs.length + 1 := by simp
  rw [hl] at hc
  have hm := m_len (W := w1) hc
  clear hl hc
  go_wp2_with fail
  refine (len_calls A _ c w1).mono ?_
  rintro e w' ⟨rfl, rfl⟩
  have hw : IntKind.i64.wrap (((xs.length + 1 : Nat) : Int) - 1) = ((xs.length : Nat) : Int) := by rw [show (((xs.length + 1 : Nat) : Int) - 1) = ((xs.length : Nat) : Int) by omega]; exact IntWalk.i64_in _ (by omega)
  go_wp2_with fail
  refine (up_calls F (xs ++ [x]) qa xs.length w1 H1.out (by simp) (by simp; omega)).mono ?_
  rintro e w' ⟨rfl, h2⟩
  have H2 := Aside0.mk h2
  clear h2
  go_wp2_with fail
  go_end0
  exact ⟨rfl, H2.out⟩

/-- More rounds give the same. -/
theorem dnL_more (i n k : Nat) (ys : List S35) : n < i + k → ∀ k', n < i + k' → dnL z35 ahd k ys i n = dnL z35 ahd k' ys i n := by
  induction k generalizing i ys with
  | zero =>
    intro h k' h'
    cases k' with
    | zero => rfl
    | succ k' => rw [dnL, dnL, if_pos (by omega)]
  | succ k ih =>
    intro h k' h'
    cases k' with
    | zero => rw [dnL, dnL, if_pos (by omega)]
    | succ k' =>
      rw [dnL, dnL]
      by_cases hn : n ≤ 2 * i + 1
      · rw [if_pos hn, if_pos hn]
      · rw [if_neg hn, if_neg hn]
        have := HeapPure.kid_lt (z := z35) (lt := ahd) ys hn
        split
        · exact ih _ _ (by omega) _ (by omega)
        · rfl
set_option maxHeartbeats 2000000 in
theorem hpop_calls (F : Fr) (xs : List S35) (qa : Nat) (w : World) (h : HQ F w qa xs) (h0 : xs.length ≠ 0) (hn : xs.length ≤ 1000000) :
    Calls Try.prog 38 #[.iface 69 (.pointer (some ⟨qa, 0, none⟩))] w fun e w' => e = .returned (.iface 35 (.agg #[.int .i64 ((HeapPure.hdown z35 ahd xs).getD (xs.length - 1) z35).f0, .int .i64 ((HeapPure.hdown z35 ahd xs).getD (xs.length - 1) z35).f1, .int .i64 ((HeapPure.hdown z35 ahd xs).getD (xs.length - 1) z35).f2])) ∧
      HQ F w' qa ((HeapPure.hdown z35 ahd xs).take (xs.length - 1)) := by
  generalize hX : (HeapPure.hdown z35 ahd xs).getD (xs.length - 1) z35 = x
  have HX := Aside0.mk hX
  clear hX
  obtain ⟨A, c, hc, _, ho, hq, hl, hB⟩ := h.look
  have HB := Aside0.mk hB
  have HO := Aside0.mk ho
  have HQ1 := Aside0.mk hq
  have H := Aside0.mk h
  clear h ho hq hB
  have hm := m_len (W := w) hc
  have hm2 := m_swap (W := w) hc
  obtain ⟨n, hnx⟩ : ∃ n, xs.length = n + 1 := ⟨xs.length - 1, by omega⟩
  have HNX := Aside0.mk hnx
  rw [hnx] at hm hm2 hc
  clear hnx hc
  have hn1 : n ≤ 1000000 := by have := HNX.out; omega
  go_enter Try.func38, Try.ntmps38
  go_wp2_with fail
  refine (len_calls A _ c w).mono ?_
  rintro e w' ⟨rfl, rfl⟩
  have ho' : w.ownsRow 0 35 3 (.slice A (n + 1) c) xs.length (flat xs) := by rw [← HNX.out]; exact HO.out
  have hq' : w.heap[qa]? = some (.cells #[.slice A (n + 1) c] 70 (0, 0)) := by rw [← HNX.out]; exact HQ1.out
  have HO' := Aside0.mk ho'
  have HQ' := Aside0.mk hq'
  clear ho' hq'
  go_wp2_with fail
  refine (swapQ F qa (.slice A (n + 1) c) xs 0 n w HO'.out HQ'.out ⟨hl.1, fun k hk => hl.2 k (by cases A <;> exact hk)⟩ HB.out (by omega) (by have := HNX.out; omega) (by omega) (by have := HNX.out; omega) hn).mono ?_
  rintro e w1 ⟨rfl, h1⟩
  rw [Int.toNat_natCast, Int.toNat_zero] at h1
  have H1 := Aside0.mk h1
  clear h1 hm hm2
  go_wp2_with fail
  refine (down_calls F (swp z35 xs 0 n) qa n w1 H1.out (by rw [HeapPure.swp_length]; have := HNX.out; omega) (by rw [HeapPure.swp_length]; exact hn)).mono ?_
  rintro e w2 ⟨⟨b, rfl⟩, h2⟩
  have e2 : dnL z35 ahd (n + 1) (swp z35 xs 0 n) 0 n = (HeapPure.hdown z35 ahd xs).take (xs.length) := by
    rw [List.take_of_length_le (by rw [HeapPure.hdown_length]; exact Nat.le_refl _), HeapPure.hdown, HNX.out, Nat.add_sub_cancel]
    exact dnL_more _ _ _ _ (by omega) _ (by omega)
  rw [e2, List.take_of_length_le (by rw [HeapPure.hdown_length]; exact Nat.le_refl _)] at h2
  have H2 := Aside0.mk h2
  clear h2 e2
  have hm := m_pop qa w2
  go_wp2_with fail
  have hcall := qpop_calls F (HeapPure.hdown z35 ahd xs) qa w2 H2.out (by rw [HeapPure.hdown_length]; exact h0) (by rw [HeapPure.hdown_length]; exact hn)
  rw [HeapPure.hdown_length, HX.out] at hcall
  refine hcall.mono ?_
  clear hcall
  rintro e w3 ⟨rfl, h3⟩
  have H3 := Aside0.mk h3
  clear h3 hm
  go_wp2_with fail
  go_ret
  exact ⟨rfl, H3.out⟩
end Go.Proofs.Ytjpnbhcoagnpjaa
