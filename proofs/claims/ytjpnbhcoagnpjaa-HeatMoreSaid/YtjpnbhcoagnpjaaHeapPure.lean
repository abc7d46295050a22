/- A binary heap over lists: what is pushed comes out in order. Plain lists; no program. -/
set_option linter.unusedVariables false
set_option linter.unusedSimpArgs false
namespace Go.Proofs.Ytjpnbhcoagnpjaa.HeapPure

section
variable {α : Type} (z : α) (lt : α → α → Bool)

def swp (xs : List α) (i j : Nat) : List α := (xs.set i (xs.getD j z)).set j (xs.getD i z)
def upL : Nat → List α → Nat → List α
  | 0, xs, _ => xs
  | k + 1, xs, j => if (j - 1) / 2 = j then xs else if lt (xs.getD j z) (xs.getD ((j - 1) / 2) z) then upL k (swp z xs ((j - 1) / 2) j) ((j - 1) / 2) else xs
def kid (xs : List α) (i n : Nat) : Nat := if 2 * i + 2 < n ∧ lt (xs.getD (2 * i + 2) z) (xs.getD (2 * i + 1) z) = true then 2 * i + 2 else 2 * i + 1
def dnL : Nat → List α → Nat → Nat → List α
  | 0, xs, _, _ => xs
  | k + 1, xs, i, n => if n ≤ 2 * i + 1 then xs else if lt (xs.getD (kid z lt xs i n) z) (xs.getD i z) then dnL k (swp z xs i (kid z lt xs i n)) (kid z lt xs i n) n else xs
def hpush (xs : List α) (x : α) : List α := upL z lt (xs.length + 1) (xs ++ [x]) xs.length
def hdown (xs : List α) : List α := dnL z lt (xs.length + 1) (swp z xs 0 (xs.length - 1)) 0 (xs.length - 1)
def popAll : Nat → List α → List α
  | 0, _ => []
  | k + 1, xs => if xs.length = 0 then [] else (hdown z lt xs).getD (xs.length - 1) z :: popAll k ((hdown z lt xs).take (xs.length - 1))
def insL (out : List α) (x : α) : List α := out.filter (fun y => lt y x) ++ [x] ++ out.filter (fun y => !lt y x)
def sortL (l : List α) : List α := l.foldl (insL lt) []
end

section
variable {α : Type} {z : α} {lt : α → α → Bool}

/-- A strict order that is whole. -/
structure Ord (lt : α → α → Bool) : Prop where
  irrefl : ∀ a, lt a a = false
  trans : ∀ a b c, lt a b = true → lt b c = true → lt a c = true
  total : ∀ a b, lt a b = false → lt b a = false → a = b

theorem Ord.asymm (O : Ord lt) {a b : α} (h : lt a b = true) : lt b a = false := by
  cases h' : lt b a
  · rfl
  · have := O.trans _ _ _ h h'
    rw [O.irrefl] at this
    cases this
/-- 'not later'. -/
theorem Ord.le_trans (O : Ord lt) {a b c : α} (h : lt b a = false) (h' : lt c b = false) : lt c a = false := by
  cases e : lt c a
  · rfl
  · cases e1 : lt a b
    · have := O.total _ _ e1 h
      subst this
      rw [h'] at e
      cases e
    · rw [O.trans _ _ _ e e1] at h'
      cases h'
theorem Ord.lt_le (O : Ord lt) {a b c : α} (h : lt a b = true) (h' : lt c b = false) : lt c a = false := O.le_trans (O.asymm h) h'

/-! ### lists -/
theorem swp_length (xs : List α) (i j : Nat) : (swp z xs i j).length = xs.length := by simp [swp]
theorem swp_get (xs : List α) {i j : Nat} (hi : i < xs.length) (hj : j < xs.length) (k : Nat) : (swp z xs i j).getD k z = if k = j then xs.getD i z else if k = i then xs.getD j z else xs.getD k z := by
  simp only [swp, List.getD_eq_getElem?_getD]
  by_cases hk : k < xs.length
  · rw [List.getElem?_eq_getElem (by simpa using hk)]
    simp only [List.getElem_set, Option.getD_some]
    by_cases h1 : j = k
    · subst h1; simp
    · by_cases h2 : i = k
      · subst h2; simp [h1, Ne.symm h1]
      · simp [h1, h2, Ne.symm h1, Ne.symm h2, List.getElem?_eq_getElem hk]
  · rw [List.getElem?_eq_none (by simpa using Nat.le_of_not_lt hk)]
    rw [if_neg (by omega), if_neg (by omega), List.getElem?_eq_none (by omega)]
theorem perm_set_swap (xs : List α) {i j : Nat} (hij : i < j) (hj : j < xs.length) : (swp z xs i j).Perm xs := by
  have hi : i < xs.length := by omega
  have e1 : xs = xs.take i ++ xs[i] :: ((xs.drop (i + 1)).take (j - i - 1) ++ xs[j] :: xs.drop (j + 1)) := by
    apply List.ext_getElem?
    intro k
    simp only [List.getElem?_append, List.length_take, List.getElem?_cons, List.getElem?_take, List.getElem?_drop, List.length_drop]
    split
    · rw [if_pos (by omega)]
    · split
      · rw [show k = i by omega, List.getElem?_eq_getElem hi]
      · split
        · rw [if_pos (by omega)]; congr 1; omega
        · split
          · rw [show k = j by omega, List.getElem?_eq_getElem hj]
          · congr 1; omega
  have e2 : swp z xs i j = xs.take i ++ xs[j] :: ((xs.drop (i + 1)).take (j - i - 1) ++ xs[i] :: xs.drop (j + 1)) := by
    apply List.ext_getElem?
    intro k
    simp only [swp, List.getElem?_set, List.length_set, List.getElem?_append, List.length_take, List.getElem?_cons, List.getElem?_take, List.getElem?_drop, List.length_drop, List.getD_eq_getElem?_getD, List.getElem?_eq_getElem hi, List.getElem?_eq_getElem hj, Option.getD_some]
    by_cases h1 : j = k
    · subst h1
      rw [if_pos rfl, if_pos hj, if_neg (by omega), if_neg (by omega), if_neg (by omega), if_pos (by omega)]
    · rw [if_neg h1]
      by_cases h2 : i = k
      · subst h2
        rw [if_pos rfl, if_pos (by omega), if_neg (by omega), if_pos (by omega)]
      · rw [if_neg h2]
        split
        · rw [if_pos (by omega)]
        · rw [if_neg (by omega)]
          split
          · rw [if_pos (by omega)]; congr 1; omega
          · rw [if_neg (by omega)]; congr 1; omega
  rw [e2]
  refine List.Perm.trans ?_ (List.Perm.of_eq e1.symm)
  refine List.Perm.append_left _ ?_
  have : ∀ (A B : List α) (a b : α), (b :: (A ++ a :: B)).Perm (a :: (A ++ b :: B)) := by
    intro A B a b
    refine (List.Perm.cons b (List.perm_middle)).trans ?_
    refine (List.Perm.swap a b _).trans ?_
    exact List.Perm.cons a (List.perm_middle.symm)
  exact this _ _ _ _
theorem swp_self (xs : List α) {i : Nat} (hi : i < xs.length) : swp z xs i i = xs := by
  apply List.ext_getElem?
  intro k
  simp only [swp, List.getElem?_set, List.length_set, List.getD_eq_getElem?_getD, List.getElem?_eq_getElem hi, Option.getD_some]
  split
  · rename_i h; subst h; simp [hi]
  · rfl
theorem swp_comm (xs : List α) {i j : Nat} (hi : i < xs.length) (hj : j < xs.length) : swp z xs i j = swp z xs j i := by
  apply List.ext_getElem?
  intro k
  simp only [swp, List.getElem?_set, List.length_set, List.getD_eq_getElem?_getD, List.getElem?_eq_getElem hi, List.getElem?_eq_getElem hj, Option.getD_some]
  by_cases h1 : j = k
  · subst h1
    by_cases h2 : i = j
    · subst h2; simp
    · simp [hj, h2]
  · by_cases h2 : i = k
    · subst h2; simp [h1, hi]
    · simp [h1, h2]
theorem swp_perm (xs : List α) {i j : Nat} (hi : i < xs.length) (hj : j < xs.length) : (swp z xs i j).Perm xs := by
  rcases Nat.lt_trichotomy i j with h | h | h
  · exact perm_set_swap xs h hj
  · subst h; rw [swp_self xs hi]
  · rw [swp_comm xs hi hj]; exact perm_set_swap xs h hi

/-! ### heaps -/
def Heap (z : α) (lt : α → α → Bool) (xs : List α) (n : Nat) : Prop := ∀ k, 0 < k → k < n → lt (xs.getD k z) (xs.getD ((k - 1) / 2) z) = false

theorem upL_length : ∀ (k : Nat) (xs : List α) (j : Nat), (upL z lt k xs j).length = xs.length
  | 0, _, _ => rfl
  | k + 1, xs, j => by
    unfold upL
    split
    · rfl
    · split
      · rw [upL_length k, swp_length]
      · rfl
theorem upL_perm : ∀ (k : Nat) (xs : List α) (j : Nat), j < xs.length → (upL z lt k xs j).Perm xs
  | 0, _, _, _ => List.Perm.refl _
  | k + 1, xs, j, hj => by
    unfold upL
    split
    · exact List.Perm.refl _
    · split
      · exact (upL_perm k _ _ (by rw [swp_length]; omega)).trans (swp_perm xs (by omega) hj)
      · exact List.Perm.refl _
theorem upL_heap (O : Ord lt) : ∀ (k : Nat) (xs : List α) (j n : Nat), j < k → j < n → n ≤ xs.length →
    (∀ q, 0 < q → q < n → q ≠ j → lt (xs.getD q z) (xs.getD ((q - 1) / 2) z) = false) →
    (∀ q, 0 < q → q < n → (q - 1) / 2 = j → 0 < j → lt (xs.getD q z) (xs.getD ((j - 1) / 2) z) = false) → Heap z lt (upL z lt k xs j) n
  | 0, _, _, _, h, _, _, _, _ => by omega
  | k + 1, xs, j, n, hk, hj, hn, h1, h2 => by
    unfold upL
    by_cases hj0 : (j - 1) / 2 = j
    · rw [if_pos hj0]
      have : j = 0 := by omega
      subst this
      intro q hq hqn
      exact h1 q hq hqn (by omega)
    · rw [if_neg hj0]
      have hj0 : 0 < j := by omega
      cases hl : lt (xs.getD j z) (xs.getD ((j - 1) / 2) z)
      · simp only [Bool.false_eq_true, if_false]
        intro q hq hqn
        by_cases e : q = j
        · subst e; exact hl
        · exact h1 q hq hqn e
      · simp only [if_true]
        have hi' : (j - 1) / 2 < xs.length := by omega
        have hjl : j < xs.length := by omega
        refine upL_heap O k _ _ n (by omega) (by omega) (by rw [swp_length]; exact hn) ?_ ?_
        · intro q hq hqn hqi
          rw [swp_get xs hi' hjl, swp_get xs hi' hjl]
          by_cases e : q = j
          · subst e
            rw [if_pos rfl, if_neg (by omega), if_pos rfl]
            exact O.asymm hl
          · rw [if_neg e, if_neg hqi]
            by_cases e2 : (q - 1) / 2 = j
            · rw [if_pos e2]
              exact h2 q hq hqn e2 hj0
            · rw [if_neg e2]
              by_cases e3 : (q - 1) / 2 = (j - 1) / 2
              · rw [if_pos e3]
                have := h1 q hq hqn e
                rw [e3] at this
                exact O.lt_le hl this
              · rw [if_neg e3]
                exact h1 q hq hqn e
        · intro q hq hqn hqp hi0
          rw [swp_get xs hi' hjl, swp_get xs hi' hjl]
          rw [if_neg (show ((j - 1) / 2 - 1) / 2 ≠ j by omega), if_neg (show ((j - 1) / 2 - 1) / 2 ≠ (j - 1) / 2 by omega)]
          have hg := h1 ((j - 1) / 2) hi0 (by omega) (by omega)
          by_cases e : q = j
          · subst e
            rw [if_pos rfl]
            exact hg
          · rw [if_neg e, if_neg (by omega)]
            have := h1 q hq hqn e
            rw [hqp] at this
            exact O.le_trans hg this

theorem kid_lt (xs : List α) {i n : Nat} (h : ¬ n ≤ 2 * i + 1) : i < kid z lt xs i n ∧ kid z lt xs i n < n ∧ (kid z lt xs i n - 1) / 2 = i := by
  unfold kid
  split <;> omega
theorem kid_min (O : Ord lt) (xs : List α) {i n : Nat} (q : Nat) (hq : 0 < q) (hqn : q < n) (hp : (q - 1) / 2 = i) : lt (xs.getD q z) (xs.getD (kid z lt xs i n) z) = false := by
  have : q = 2 * i + 1 ∨ q = 2 * i + 2 := by omega
  unfold kid
  split
  · rename_i h
    rcases this with rfl | rfl
    · exact O.asymm h.2
    · exact O.irrefl _
  · rename_i h
    rcases this with rfl | rfl
    · exact O.irrefl _
    · cases e : lt (xs.getD (2 * i + 2) z) (xs.getD (2 * i + 1) z)
      · rfl
      · exact absurd ⟨hqn, e⟩ h
theorem dnL_length : ∀ (k : Nat) (xs : List α) (i n : Nat), (dnL z lt k xs i n).length = xs.length
  | 0, _, _, _ => rfl
  | k + 1, xs, i, n => by
    unfold dnL
    split
    · rfl
    · split
      · rw [dnL_length k, swp_length]
      · rfl
theorem dnL_perm : ∀ (k : Nat) (xs : List α) (i n : Nat), n ≤ xs.length → (dnL z lt k xs i n).Perm xs
  | 0, _, _, _, _ => List.Perm.refl _
  | k + 1, xs, i, n, hn => by
    unfold dnL
    split
    · exact List.Perm.refl _
    · rename_i h
      have := kid_lt (z := z) (lt := lt) xs h
      split
      · exact (dnL_perm k _ _ _ (by rw [swp_length]; exact hn)).trans (swp_perm xs (by omega) (by omega))
      · exact List.Perm.refl _
theorem dnL_far : ∀ (k : Nat) (xs : List α) (i n : Nat), n ≤ xs.length → ∀ q, n ≤ q → (dnL z lt k xs i n).getD q z = xs.getD q z
  | 0, _, _, _, _, _, _ => rfl
  | k + 1, xs, i, n, hn, q, hq => by
    unfold dnL
    split
    · rfl
    · rename_i h
      have := kid_lt (z := z) (lt := lt) xs h
      split
      · rw [dnL_far k _ _ _ (by rw [swp_length]; exact hn) q hq, swp_get xs (by omega) (by omega), if_neg (by omega), if_neg (by omega)]
      · rfl
theorem dnL_heap (O : Ord lt) : ∀ (k : Nat) (xs : List α) (i n : Nat), n < i + k → n ≤ xs.length →
    (∀ q, 0 < q → q < n → (q - 1) / 2 ≠ i → lt (xs.getD q z) (xs.getD ((q - 1) / 2) z) = false) →
    (∀ q, 0 < q → q < n → (q - 1) / 2 = i → 0 < i → lt (xs.getD q z) (xs.getD ((i - 1) / 2) z) = false) → Heap z lt (dnL z lt k xs i n) n
  | 0, xs, i, n, hk, hn, h1, _ => by
    intro q hq hqn
    exact h1 q hq hqn (by omega)
  | k + 1, xs, i, n, hk, hn, h1, h2 => by
    unfold dnL
    by_cases hj : n ≤ 2 * i + 1
    · rw [if_pos hj]
      intro q hq hqn
      exact h1 q hq hqn (by omega)
    · rw [if_neg hj]
      have hkid := kid_lt (z := z) (lt := lt) xs hj
      have hmin := kid_min O (z := z) xs (i := i) (n := n)
      generalize hkd : kid z lt xs i n = j at *
      cases hl : lt (xs.getD j z) (xs.getD i z)
      · simp only [Bool.false_eq_true, if_false]
        intro q hq hqn
        by_cases e : (q - 1) / 2 = i
        · rw [e]
          exact O.le_trans hl (hmin q hq hqn e)
        · exact h1 q hq hqn e
      · simp only [if_true]
        have hi' : i < xs.length := by omega
        have hjl : j < xs.length := by omega
        refine dnL_heap O k _ _ n (by omega) (by rw [swp_length]; exact hn) ?_ ?_
        · intro q hq hqn hqp
          rw [swp_get xs hi' hjl, swp_get xs hi' hjl, if_neg (show (q - 1) / 2 ≠ j from hqp)]
          by_cases e : (q - 1) / 2 = i
          · rw [if_pos e]
            by_cases e2 : q = j
            · rw [if_pos e2]
              exact O.asymm hl
            · rw [if_neg e2, if_neg (by omega)]
              exact hmin q hq hqn e
          · rw [if_neg e, if_neg (show q ≠ j by omega)]
            by_cases e2 : q = i
            · subst e2
              rw [if_pos rfl]
              exact h2 j (by omega) (by omega) hkid.2.2 hq
            · rw [if_neg e2]
              exact h1 q hq hqn e
        · intro q hq hqn hqp _
          rw [swp_get xs hi' hjl, swp_get xs hi' hjl, hkid.2.2, if_neg (show i ≠ j by omega), if_pos rfl, if_neg (show q ≠ j by omega), if_neg (show q ≠ i by omega)]
          have := h1 q hq hqn (by omega)
          rwa [hqp] at this
theorem Heap.root (O : Ord lt) {xs : List α} {n : Nat} (h : Heap z lt xs n) : ∀ k, k < n → lt (xs.getD k z) (xs.getD 0 z) = false := by
  intro k
  induction k using Nat.strongRecOn with
  | _ k ih =>
    intro hk
    rcases Nat.eq_zero_or_pos k with rfl | h0
    · exact O.irrefl _
    · exact O.le_trans (ih ((k - 1) / 2) (by omega) (by omega)) (h k h0 hk)

/-! ### pushing and popping -/
theorem getD_app (xs : List α) (x : α) (q : Nat) (h : q < xs.length) : (xs ++ [x]).getD q z = xs.getD q z := by
  simp [List.getD_eq_getElem?_getD, List.getElem?_append_left h]
theorem hpush_length (xs : List α) (x : α) : (hpush z lt xs x).length = xs.length + 1 := by simp [hpush, upL_length]
theorem hpush_perm (xs : List α) (x : α) : (hpush z lt xs x).Perm (x :: xs) := by
  refine (upL_perm _ _ _ (by simp)).trans ?_
  exact List.perm_append_comm (l₁ := xs) (l₂ := [x])
theorem hpush_heap (O : Ord lt) {xs : List α} (h : Heap z lt xs xs.length) (x : α) : Heap z lt (hpush z lt xs x) (xs.length + 1) := by
  refine upL_heap O _ _ _ _ (by omega) (by omega) (by simp) ?_ ?_
  · intro q hq hqn hne
    rw [getD_app _ _ _ (by omega), getD_app _ _ _ (by omega)]
    exact h q hq (by omega)
  · intro q hq hqn hp h0
    omega
theorem hdown_length (xs : List α) : (hdown z lt xs).length = xs.length := by simp [hdown, dnL_length, swp_length]
theorem hdown_perm {xs : List α} (h0 : xs.length ≠ 0) : (hdown z lt xs).Perm xs :=
  (dnL_perm _ _ _ _ (by rw [swp_length]; omega)).trans (swp_perm xs (by omega) (by omega))
theorem hdown_last {xs : List α} (h0 : xs.length ≠ 0) : (hdown z lt xs).getD (xs.length - 1) z = xs.getD 0 z := by
  rw [hdown, dnL_far _ _ _ _ (by rw [swp_length]; omega) _ (Nat.le_refl _), swp_get xs (by omega) (by omega), if_pos rfl]
theorem getD_take (xs : List α) (n q : Nat) (h : q < n) : (xs.take n).getD q z = xs.getD q z := by
  simp [List.getD_eq_getElem?_getD, List.getElem?_take, h]
theorem hdown_heap (O : Ord lt) {xs : List α} (h : Heap z lt xs xs.length) (h0 : xs.length ≠ 0) : Heap z lt ((hdown z lt xs).take (xs.length - 1)) (xs.length - 1) := by
  have hh : Heap z lt (hdown z lt xs) (xs.length - 1) := by
    refine dnL_heap O _ _ _ _ (by omega) (by rw [swp_length]; omega) ?_ ?_
    · intro q hq hqn hp
      rw [swp_get xs (by omega) (by omega), swp_get xs (by omega) (by omega), if_neg (by omega), if_neg (by omega), if_neg (by omega), if_neg hp]
      exact h q hq (by omega)
    · intro q _ _ _ h
      omega
  intro q hq hqn
  rw [getD_take _ _ _ hqn, getD_take _ _ _ (by omega)]
  exact hh q hq hqn
theorem hdown_split {xs : List α} (h0 : xs.length ≠ 0) : ((hdown z lt xs).getD (xs.length - 1) z :: (hdown z lt xs).take (xs.length - 1)).Perm xs := by
  have hl := hdown_length (z := z) (lt := lt) xs
  have e : hdown z lt xs = (hdown z lt xs).take (xs.length - 1) ++ [(hdown z lt xs).getD (xs.length - 1) z] := by
    conv => lhs; rw [← List.take_append_drop (xs.length - 1) (hdown z lt xs)]
    congr 1
    rw [List.drop_eq_getElem_cons (by omega), List.getD_eq_getElem?_getD, List.getElem?_eq_getElem (by omega), List.drop_of_length_le (by omega)]
    rfl
  refine List.Perm.trans ?_ (hdown_perm h0 (z := z) (lt := lt))
  conv => rhs; rw [e]
  exact List.perm_append_comm (l₁ := [_]) (l₂ := _)

theorem popAll_spec (O : Ord lt) : ∀ (k : Nat) (xs : List α), xs.length ≤ k → Heap z lt xs xs.length → (popAll z lt k xs).Perm xs ∧ (popAll z lt k xs).Pairwise (fun a b => lt b a = false)
  | 0, xs, hk, _ => by
    have : xs = [] := List.eq_nil_of_length_eq_zero (by omega)
    subst this
    exact ⟨List.Perm.refl _, List.Pairwise.nil⟩
  | k + 1, xs, hk, h => by
    unfold popAll
    split
    · rename_i h0
      have : xs = [] := List.eq_nil_of_length_eq_zero h0
      subst this
      exact ⟨List.Perm.refl _, List.Pairwise.nil⟩
    · rename_i h0
      have hl : ((hdown z lt xs).take (xs.length - 1)).length = xs.length - 1 := by rw [List.length_take, hdown_length]; omega
      have hh := hdown_heap O h h0
      obtain ⟨hp, hs⟩ := popAll_spec O k ((hdown z lt xs).take (xs.length - 1)) (by omega) (by rw [hl]; exact hh)
      have hsp := hdown_split h0 (z := z) (lt := lt)
      refine ⟨(List.Perm.cons _ hp).trans hsp, List.pairwise_cons.2 ⟨fun b hb => ?_, hs⟩⟩
      rw [hdown_last h0]
      have hb' : b ∈ xs := hsp.subset (List.mem_cons_of_mem _ (hp.subset hb))
      obtain ⟨q, hq, rfl⟩ := List.getElem_of_mem hb'
      have := h.root O q hq
      simpa [List.getD_eq_getElem?_getD, List.getElem?_eq_getElem hq] using this

/-! ### insertion -/
theorem filter_split_perm (p : α → Bool) : ∀ l : List α, (l.filter p ++ l.filter (fun y => !p y)).Perm l
  | [] => List.Perm.refl _
  | x :: r => by
    have ih := filter_split_perm p r
    cases h : p x
    · simp only [List.filter_cons, h, Bool.not_false, if_true, Bool.false_eq_true, if_false]
      exact List.perm_middle.trans (List.Perm.cons _ ih)
    · simp only [List.filter_cons, h, Bool.not_true, if_true, Bool.false_eq_true, if_false, List.cons_append]
      exact List.Perm.cons _ ih
theorem insL_perm (out : List α) (x : α) : (insL lt out x).Perm (x :: out) := by
  unfold insL
  rw [List.append_assoc]
  refine List.perm_middle.trans ?_
  exact List.Perm.cons _ (filter_split_perm _ out)
theorem insL_sorted (O : Ord lt) {out : List α} (h : out.Pairwise (fun a b => lt b a = false)) (x : α) : (insL lt out x).Pairwise (fun a b => lt b a = false) := by
  unfold insL
  rw [List.append_assoc]
  refine List.pairwise_append.2 ⟨h.filter _, List.pairwise_cons.2 ⟨fun b hb => ?_, h.filter _⟩, fun a ha b hb => ?_⟩
  · have := (List.mem_filter.1 hb).2
    simpa using this
  · have ha' := (List.mem_filter.1 ha).2
    rcases List.mem_cons.1 hb with rfl | hb
    · exact O.asymm ha'
    · have hb' := (List.mem_filter.1 hb).2
      exact O.le_trans (O.asymm ha') (by simpa using hb')
theorem foldl_ins (O : Ord lt) : ∀ (l out : List α), out.Pairwise (fun a b => lt b a = false) → (l.foldl (insL lt) out).Perm (l ++ out) ∧ (l.foldl (insL lt) out).Pairwise (fun a b => lt b a = false)
  | [], out, h => ⟨List.Perm.refl _, h⟩
  | x :: r, out, h => by
    obtain ⟨h1, h2⟩ := foldl_ins O r (insL lt out x) (insL_sorted O h x)
    refine ⟨h1.trans ?_, h2⟩
    exact (List.Perm.append_left r (insL_perm out x)).trans List.perm_middle
theorem sortL_spec (O : Ord lt) (l : List α) : (sortL lt l).Perm l ∧ (sortL lt l).Pairwise (fun a b => lt b a = false) := by
  obtain ⟨h1, h2⟩ := foldl_ins O l [] List.Pairwise.nil
  rw [List.append_nil] at h1
  exact ⟨h1, h2⟩
theorem sorted_unique (O : Ord lt) : ∀ {l m : List α}, l.Perm m → l.Pairwise (fun a b => lt b a = false) → m.Pairwise (fun a b => lt b a = false) → l = m
  | [], m, hp, _, _ => hp.nil_eq
  | x :: r, [], hp, _, _ => by simpa using hp.length_eq
  | x :: r, y :: s, hp, h1, h2 => by
    obtain ⟨h1a, h1b⟩ := List.pairwise_cons.1 h1
    obtain ⟨h2a, h2b⟩ := List.pairwise_cons.1 h2
    have exy : x = y := by
      have hx : x ∈ y :: s := hp.subset (by simp)
      have hy : y ∈ x :: r := hp.symm.subset (by simp)
      rcases List.mem_cons.1 hx with e | hx
      · exact e
      · rcases List.mem_cons.1 hy with e | hy
        · exact e.symm
        · exact O.total _ _ (h2a x hx) (h1a y hy)
    subst exy
    rw [sorted_unique O (List.Perm.cons_inv hp) h1b h2b]

theorem pushAll_spec (O : Ord lt) : ∀ (l xs : List α), Heap z lt xs xs.length → (l.foldl (hpush z lt) xs).Perm (l ++ xs) ∧ Heap z lt (l.foldl (hpush z lt) xs) (l.foldl (hpush z lt) xs).length
  | [], xs, h => ⟨List.Perm.refl _, h⟩
  | x :: r, xs, h => by
    obtain ⟨h1, h2⟩ := pushAll_spec O r (hpush z lt xs x) (by rw [hpush_length]; exact hpush_heap O h x)
    exact ⟨h1.trans ((List.Perm.append_left r (hpush_perm xs x)).trans List.perm_middle), h2⟩
/-- What is pushed into an empty heap comes out in order. -/
theorem heapsort (O : Ord lt) (l : List α) (k : Nat) (hk : l.length ≤ k) : popAll z lt k (l.foldl (hpush z lt) []) = sortL lt l := by
  obtain ⟨h1, h2⟩ := pushAll_spec O (z := z) l [] (fun q _ h => by simp at h)
  rw [List.append_nil] at h1
  obtain ⟨h3, h4⟩ := popAll_spec O k _ (by rw [h1.length_eq]; exact hk) h2
  obtain ⟨h5, h6⟩ := sortL_spec O l
  exact sorted_unique O ((h3.trans h1).trans h5.symm) h4 h6
end
end Go.Proofs.Ytjpnbhcoagnpjaa.HeapPure
