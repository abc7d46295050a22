/- The cache's plain law: what pinning, dropping and putting do to lines; no program in sight. -/
import Derived.Test.YtjpnbhcoagnpjaaCachePut
import Derived.Test.YtjpnbhcoagnpjaaCachePin
import Derived.Test.YtjpnbhcoagnpjaaCacheRefV
namespace Go.Proofs.Ytjpnbhcoagnpjaa
namespace Ca
open Go.RowKit Go.Proofs.YtjpnbhcoagnpjaaW.PrintWords Go.Proofs.YtjpnbhcoagnpjaaW.PrintLast Go.Proofs.YtjpnbhcoagnpjaaW.PrintMore
open Go.Proofs.Ytjpnbhcoagnpjaa.PCacheTells
set_option linter.unusedVariables false
set_option linter.unusedSimpArgs false

theorem rd_succ (x : S56) (r : List S56) (k : Nat) : rd_T56 (x :: r) ((k + 1 : Nat) : Int) = rd_T56 r (k : Int) := by
  unfold rd_T56
  rw [Int.toNat_natCast, Int.toNat_natCast]
  rfl
theorem rd_zero (x : S56) (r : List S56) : rd_T56 (x :: r) ((0 : Nat) : Int) = x := rfl
theorem rd_set {l : List S56} {j : Nat} (hj : j < l.length) (x : S56) (k : Nat) : rd_T56 (l.set j x) (k : Int) = if k = j then x else rd_T56 l (k : Int) := by
  unfold rd_T56
  rw [Int.toNat_natCast, List.getD_eq_getElem?_getD, List.getD_eq_getElem?_getD, List.getElem?_set]
  by_cases e : j = k
  · subst e
    simp [hj]
  · have e2 : ¬ k = j := fun h => e h.symm
    rw [if_neg e, if_neg e2]
theorem set_rd {l : List S56} {j : Nat} (hj : j < l.length) : l.set j (rd_T56 l (j : Int)) = l := by
  rw [rd_get hj]
  exact List.set_getElem_self hj
/-- May, said of places. -/
theorem mayC_iff : ∀ (l : List S56) (S : Int → Bool), mayC l S = true ↔ (∀ i : Nat, i < l.length → okL (rd_T56 l i) = true) ∧ ∀ i : Nat, i < l.length → 0 ≤ (rd_T56 l i).f0 → S (rd_T56 l i).f0 = false ∧ ∀ k : Nat, k < i → (rd_T56 l k).f0 ≠ (rd_T56 l i).f0
  | [], S => by simp [mayC]
  | x :: r, S => by
    rw [mayC, Bool.and_eq_true, Bool.and_eq_true, mayC_iff r]
    constructor
    · rintro ⟨⟨h1, h2⟩, h3, h4⟩
      refine ⟨fun i hi => ?_, fun i hi h0 => ?_⟩
      · cases i with
        | zero => exact h1
        | succ i => rw [rd_succ]; exact h3 i (by simpa using hi)
      · cases i with
        | zero =>
          rw [rd_zero] at h0 ⊢
          refine ⟨?_, fun k hk => by omega⟩
          simpa [h0] using h2
        | succ i =>
          rw [rd_succ] at h0 ⊢
          obtain ⟨h5, h6⟩ := h4 i (by simpa using hi) h0
          simp only [Bool.or_eq_false_iff, decide_eq_false_iff_not] at h5
          refine ⟨h5.2, fun k hk => ?_⟩
          cases k with
          | zero => rw [rd_zero]; exact fun h => h5.1 h.symm
          | succ k => rw [rd_succ]; exact h6 k (by omega)
    · rintro ⟨h1, h2⟩
      have ha := h1 0 (by simp)
      have hb := h2 0 (by simp)
      rw [rd_zero] at ha hb
      refine ⟨⟨ha, ?_⟩, fun i hi => ?_, fun i hi h0 => ?_⟩
      · by_cases h0 : 0 ≤ x.f0
        · rw [(hb h0).1]; simp
        · rw [decide_eq_false h0]; rfl
      · have := h1 (i + 1) (by simpa using hi)
        rwa [rd_succ] at this
      · have h3 := h2 (i + 1) (by simpa using hi)
        rw [rd_succ] at h3
        obtain ⟨h4, h5⟩ := h3 h0
        refine ⟨?_, fun k hk => ?_⟩
        · have := h5 0 (by omega)
          rw [rd_zero] at this
          rw [h4, decide_eq_false (fun h => this h.symm)]
          rfl
        · have := h5 (k + 1) (by omega)
          rwa [rd_succ] at this
structure MayP (l : List S56) : Prop where
  pos : 1 ≤ l.length
  most : l.length ≤ 256
  ok : ∀ i : Nat, i < l.length → okL (rd_T56 l i) = true
  apart : ∀ i : Nat, i < l.length → 0 ≤ (rd_T56 l i).f0 → ∀ k : Nat, k < i → (rd_T56 l k).f0 ≠ (rd_T56 l i).f0
theorem mayB_iff (l : List S56) : mayB l = true ↔ MayP l := by
  rw [mayB, Bool.and_eq_true, Bool.and_eq_true, mayC_iff, decide_eq_true_eq, decide_eq_true_eq]
  constructor
  · rintro ⟨⟨⟨h1, h2⟩, h3⟩, h4⟩
    exact ⟨h3, h4, h1, fun i hi h0 => (h2 i hi h0).2⟩
  · rintro ⟨h3, h4, h1, h2⟩
    exact ⟨⟨⟨h1, fun i hi h0 => ⟨rfl, h2 i hi h0⟩⟩, h3⟩, h4⟩
theorem MayP.ne {l : List S56} (h : MayP l) {i k : Nat} (hi : i < l.length) (hk : k < l.length) (hik : i ≠ k) (h0 : 0 ≤ (rd_T56 l i).f0) : (rd_T56 l k).f0 ≠ (rd_T56 l i).f0 := by
  rcases Nat.lt_or_ge k i with hlt | hge
  · exact h.apart i hi h0 k hlt
  · intro e
    exact h.apart k hk (by omega) i (by omega) e.symm
/-- One line is put in another's place: the lines still may be. -/
theorem MayP.put {l : List S56} (h : MayP l) {j : Nat} (hj : j < l.length) {x : S56} (hx : okL x = true) (hne : 0 ≤ x.f0 → ∀ k : Nat, k < l.length → k ≠ j → (rd_T56 l k).f0 ≠ x.f0) : MayP (l.set j x) := by
  refine ⟨by rw [List.length_set]; exact h.pos, by rw [List.length_set]; exact h.most, fun i hi => ?_, fun i hi h0 k hk => ?_⟩
  · rw [List.length_set] at hi
    rw [rd_set hj]
    split
    · exact hx
    · exact h.ok i hi
  · rw [List.length_set] at hi
    rw [rd_set hj] at h0 ⊢
    rw [rd_set hj]
    by_cases ei : i = j
    · rw [if_pos ei] at h0 ⊢
      rw [if_neg (by omega)]
      exact hne h0 k (by omega) (by omega)
    · rw [if_neg ei] at h0 ⊢
      by_cases ek : k = j
      · rw [if_pos ek]
        intro e
        exact hne (by omega) i hi ei e.symm
      · rw [if_neg ek]
        exact h.apart i hi h0 k hk
theorem findN_iff : ∀ (l : List S56) (s : Int) (j : Nat), findN l s = some j ↔ j < l.length ∧ (rd_T56 l j).f0 = s ∧ ∀ k : Nat, k < j → (rd_T56 l k).f0 ≠ s
  | [], s, j => by simp [findN]
  | x :: r, s, j => by
    rw [findN]
    by_cases hx : x.f0 = s
    · rw [if_pos hx]
      constructor
      · intro h
        injection h with h
        subst h
        exact ⟨by simp, hx, fun k hk => by omega⟩
      · rintro ⟨_, _, h3⟩
        cases j with
        | zero => rfl
        | succ j => exact absurd hx (h3 0 (by omega))
    · rw [if_neg hx]
      cases j with
      | zero =>
        constructor
        · intro h
          cases hr : findN r s <;> rw [hr] at h <;> simp at h
        · rintro ⟨_, h2, _⟩
          exact absurd h2 hx
      | succ j =>
        have ih := findN_iff r s j
        constructor
        · intro h
          cases hr : findN r s with
          | none => rw [hr] at h; simp at h
          | some v =>
            rw [hr] at h
            simp at h
            subst h
            obtain ⟨h1, h2, h3⟩ := ih.1 hr
            refine ⟨by simpa using h1, by rw [rd_succ]; exact h2, fun k hk => ?_⟩
            cases k with
            | zero => exact hx
            | succ k => rw [rd_succ]; exact h3 k (by omega)
        · rintro ⟨h1, h2, h3⟩
          rw [rd_succ] at h2
          have := ih.2 ⟨by simpa using h1, h2, fun k hk => by have := h3 (k + 1) (by omega); rwa [rd_succ] at this⟩
          rw [this]
          rfl
theorem findN_none (l : List S56) (s : Int) : findN l s = none ↔ ∀ k : Nat, k < l.length → (rd_T56 l k).f0 ≠ s := by
  constructor
  · intro h k
    induction k using Nat.strongRecOn with
    | _ k ih =>
      intro hk e
      have := (findN_iff l s k).2 ⟨hk, e, fun i hi => ih i hi (by omega)⟩
      rw [h] at this
      cases this
  · intro h
    cases hf : findN l s with
    | none => rfl
    | some j =>
      obtain ⟨h1, h2, _⟩ := (findN_iff l s j).1 hf
      exact absurd h2 (h j h1)
/-- In lines that may be, a segment is in one line alone. -/
theorem MayP.find {l : List S56} (h : MayP l) {j : Nat} (hj : j < l.length) {s : Int} (hs : 0 ≤ s) (he : (rd_T56 l j).f0 = s) : findP l s = ((j : Int), 0) := by
  have hf : findN l s = some j := (findN_iff l s j).2 ⟨hj, he, fun k hk => by rw [← he]; exact h.apart j hj (by omega) k hk⟩
  rw [findP, if_pos ((mayB_iff l).2 h), hf]
  simp only
  rw [if_neg (by omega)]
theorem MayP.lost {l : List S56} (h : MayP l) {s : Int} (hn : ∀ k : Nat, k < l.length → (rd_T56 l k).f0 ≠ s) : findP l s = (0, 6) := by
  rw [findP, if_pos ((mayB_iff l).2 h), (findN_none l s).2 hn]
theorem vicF_free (l : List S56) : ∀ n b, vicF l n = some b → (rd_T56 l b).f2 = 0
  | 0, b, h => by simp [vicF] at h
  | n + 1, b, h => by
    rw [vicF] at h
    split at h
    · rename_i hc
      injection h with h
      subst h
      simp only [vicC, Bool.and_eq_true, decide_eq_true_eq] at hc
      exact hc.1
    · exact vicF_free l n b h
theorem victim_free (l : List S56) (hm : mayB l = true) : (victimP l = (0, 18)) ∨ ∃ b : Nat, b < l.length ∧ victimP l = ((b : Int), 0) ∧ (rd_T56 l b).f2 = 0 := by
  rw [victimP, if_pos hm]
  cases hv : vicF l l.length with
  | none => exact .inl rfl
  | some b => exact .inr ⟨b, vicF_lt l l.length b hv, rfl, vicF_free l l.length b hv⟩
/-- CachePins, plain: m is pinned by 'by', at least one. -/
theorem pins_pure (m : List S56) (s b : Int) (j : Nat) (hj : j < m.length) (hm : mayB m = true) (hs : 0 ≤ s) (hf : (rd_T56 m j).f0 = s) (hb1 : 1 ≤ b) (hb2 : b ≤ 99) (hb3 : (rd_T56 m j).f2 + b ≤ 99) :
    pinP m s b = (m.set j ⟨(rd_T56 m j).f0, (rd_T56 m j).f1, (rd_T56 m j).f2 + b⟩, 0) ∧
    ((victimP (m.set j ⟨(rd_T56 m j).f0, (rd_T56 m j).f1, (rd_T56 m j).f2 + b⟩)).2 ≠ 0 ∨ (victimP (m.set j ⟨(rd_T56 m j).f0, (rd_T56 m j).f1, (rd_T56 m j).f2 + b⟩)).1 ≠ (j : Int)) ∧
    dropP (m.set j ⟨(rd_T56 m j).f0, (rd_T56 m j).f1, (rd_T56 m j).f2 + b⟩) s = ([], 18) ∧
    (putP (m.set j ⟨(rd_T56 m j).f0, (rd_T56 m j).f1, (rd_T56 m j).f2 + b⟩) j 1099511627776 5).2 ≠ 0 ∧
    pinP (m.set j ⟨(rd_T56 m j).f0, (rd_T56 m j).f1, (rd_T56 m j).f2 + b⟩) s (-b) = (m, 0) := by
  have hM := (mayB_iff m).1 hm
  obtain ⟨x1, x2, x3, x4, x5, x6⟩ := okL_bounds (hM.ok j hj)
  obtain ⟨y, hy⟩ : ∃ y : S56, y = ⟨(rd_T56 m j).f0, (rd_T56 m j).f1, (rd_T56 m j).f2 + b⟩ := ⟨_, rfl⟩
  have y0 : y.f0 = (rd_T56 m j).f0 := by rw [hy]
  have y1 : y.f1 = (rd_T56 m j).f1 := by rw [hy]
  have y2 : y.f2 = (rd_T56 m j).f2 + b := by rw [hy]
  rw [← hy]
  have hyok : okL y = true := by
    have h0 := hM.ok j hj
    simp only [okL, badL, inB, Bool.and_eq_true, Bool.not_eq_true', Bool.or_eq_false_iff, decide_eq_true_eq, decide_eq_false_iff_not, Bool.and_eq_false_iff, Bool.not_eq_false', y0, y1, y2] at h0 ⊢
    omega
  have hX : MayP (m.set j y) := hM.put hj hyok (fun h0 k hk hkj => by rw [y0]; exact hM.ne hj hk (Ne.symm hkj) (by omega))
  have hjx : j < (m.set j y).length := by rw [List.length_set]; exact hj
  have hrx : rd_T56 (m.set j y) j = y := by rw [rd_set hj, if_pos rfl]
  have hfm : findP m s = ((j : Int), 0) := hM.find hj hs hf
  have hfx : findP (m.set j y) s = ((j : Int), 0) := hX.find hjx hs (by rw [hrx, y0, hf])
  refine ⟨?_, ?_, ?_, ?_, ?_⟩
  · rw [pinP, hfm]
    simp only [if_true, Int.toNat_natCast]
    rw [if_neg (by omega), ← hy]
  · rcases victim_free _ ((mayB_iff _).2 hX) with hv | ⟨v, _, hv, hv2⟩
    · left
      rw [hv]
      simp
    · right
      rw [hv]
      intro e
      have e1 : (v : Int) = (j : Int) := e
      have e2 : v = j := by omega
      rw [e2, hrx, y2] at hv2
      omega
  · rw [dropP, hfx]
    simp only [if_true]
    rw [hrx, if_pos (by omega)]
  · rw [putP]
    rcases findP_cases (m.set j y) 1099511627776 with ⟨he, h⟩ | ⟨he, _⟩ | ⟨i, _, he, _⟩
    · rw [he]
      simp
    · rw [he]
      simp only
      rw [if_neg (by simp), if_neg (by omega), if_neg (by simp [inB]), if_neg (by simp), hrx, if_pos (by omega)]
      simp
    · rw [he]
      simp only
      rw [if_neg (by simp), if_neg (by omega), if_neg (by simp [inB]), if_pos trivial]
      simp
  · rw [pinP, hfx]
    simp only [if_true, Int.toNat_natCast]
    rw [hrx, if_neg (by omega), List.set_set]
    have hz : (⟨y.f0, y.f1, y.f2 + -b⟩ : S56) = rd_T56 m j := by
      rw [y0, y1, y2, show (rd_T56 m j).f2 + b + -b = (rd_T56 m j).f2 by omega]
    rw [hz, set_rd hj]
theorem first_empty (l : List S56) : ∀ n : Nat, (∃ i : Nat, i < n ∧ (rd_T56 l i).f0 < 0) → ∃ i : Nat, i < n ∧ (rd_T56 l i).f0 < 0 ∧ ∀ k : Nat, k < i → 0 ≤ (rd_T56 l k).f0
  | 0, ⟨i, hi, _⟩ => by omega
  | n + 1, ⟨i, hi, h0⟩ => by
    by_cases h : ∃ k : Nat, k < n ∧ (rd_T56 l k).f0 < 0
    · obtain ⟨k, h1, h2, h3⟩ := first_empty l n h
      exact ⟨k, by omega, h2, h3⟩
    · have e : i = n := by
        by_cases e : i = n
        · exact e
        · exact absurd ⟨i, by omega, h0⟩ h
      refine ⟨i, hi, h0, fun k hk => ?_⟩
      by_cases hk0 : (rd_T56 l k).f0 < 0
      · exact absurd ⟨k, by omega, hk0⟩ h
      · omega
theorem okL_empty {x : S56} (h : okL x = true) (h0 : x.f0 < 0) : x.f0 = -1 ∧ x.f1 = 0 ∧ x.f2 = 0 := by
  have := okL_bounds h
  omega
/-- An empty line is there: the victim is the first one. -/
theorem victim_empty {l : List S56} (hM : MayP l) {j : Nat} (hj : j < l.length) (h0 : (rd_T56 l j).f0 < 0) : ∃ v : Nat, v ≤ j ∧ victimP l = ((v : Int), 0) ∧ rd_T56 l v = noneL ∧ ∀ k : Nat, k < v → 0 ≤ (rd_T56 l k).f0 := by
  obtain ⟨v, h1, h2, h3⟩ := first_empty l (j + 1) ⟨j, by omega, h0⟩
  have hv := okL_empty (hM.ok v (by omega)) h2
  refine ⟨v, by omega, ?_, ?_, h3⟩
  · rw [victimP, if_pos ((mayB_iff l).2 hM), (vicF_empty l v (by omega) h2 hv.2.2 h3 l.length).2 (by omega)]
  · cases hr : rd_T56 l v
    rw [hr] at hv
    simp only at hv
    rw [hv.1, hv.2.1, hv.2.2]
    rfl
theorem noneL_ok : okL noneL = true := by decide
theorem putL_ok {s t : Int} (hs : 0 ≤ s) (ht : inB t 2147483647 = true) : okL ⟨s, t, 0⟩ = true := by
  simp only [okL, badL, inB, Bool.and_eq_true, Bool.not_eq_true', Bool.or_eq_false_iff, decide_eq_true_eq, decide_eq_false_iff_not, Bool.and_eq_false_iff, Bool.not_eq_false'] at ht ⊢
  omega
/-- CacheDrops, plain. -/
theorem drops_pure (m : List S56) (s t : Int) (j : Nat) (hj : j < m.length) (hm : mayB m = true) (hs : 0 ≤ s) (hf : (rd_T56 m j).f0 = s) (hp : ¬ 0 < (rd_T56 m j).f2) :
    dropP m s = (m.set j noneL, 0) ∧ findP (m.set j noneL) s = (0, 6) ∧
    (∃ v : Nat, v ≤ j ∧ victimP (m.set j noneL) = ((v : Int), 0) ∧ rd_T56 (m.set j noneL) v = noneL) ∧
    (inB t 2147483647 = false → putP (m.set j noneL) j s t = ([], 1)) ∧
    (inB t 2147483647 = true → putP (m.set j noneL) j s t = ((m.set j noneL).set j ⟨s, t, 0⟩, 0) ∧ findP ((m.set j noneL).set j ⟨s, t, 0⟩) s = ((j : Int), 0)) := by
  have hM := (mayB_iff m).1 hm
  have hX : MayP (m.set j noneL) := hM.put hj noneL_ok (fun h0 => by simp [noneL] at h0)
  have hjx : j < (m.set j noneL).length := by rw [List.length_set]; exact hj
  have hrx : rd_T56 (m.set j noneL) j = noneL := by rw [rd_set hj, if_pos rfl]
  have hfm : findP m s = ((j : Int), 0) := hM.find hj hs hf
  have hother : ∀ k : Nat, k < (m.set j noneL).length → (rd_T56 (m.set j noneL) k).f0 ≠ s := by
    intro k hk
    rw [List.length_set] at hk
    rw [rd_set hj]
    split
    · simp only [noneL]; omega
    · rename_i e
      rw [← hf]
      exact hM.ne hj hk (Ne.symm e) (by omega)
  have hfx : findP (m.set j noneL) s = (0, 6) := hX.lost hother
  refine ⟨?_, hfx, ?_, fun ht => ?_, fun ht => ?_⟩
  · rw [dropP, hfm]
    simp only [if_true, Int.toNat_natCast]
    rw [if_neg hp]
  · obtain ⟨v, h1, h2, h3, _⟩ := victim_empty hX hjx (by rw [hrx]; simp [noneL])
    exact ⟨v, h1, h2, h3⟩
  · rw [putP, hfx]
    simp only
    rw [if_neg (by simp), if_neg (by omega), if_pos (.inr ht)]
  · constructor
    · rw [putP, hfx]
      simp only
      rw [if_neg (by simp), if_neg (by omega), if_neg (by simp [ht]; omega), if_neg (by simp), hrx, if_neg (by simp [noneL]), Int.toNat_natCast]
    · have hY : MayP ((m.set j noneL).set j ⟨s, t, 0⟩) := hX.put hjx (putL_ok hs ht) (fun _ k hk _ => hother k hk)
      refine hY.find (by rw [List.length_set]; exact hjx) hs ?_
      rw [rd_set hjx, if_pos rfl]
end Ca
end Go.Proofs.Ytjpnbhcoagnpjaa
