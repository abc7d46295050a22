/- The reference Victim of layer 16 answers as the program does: plain Lean. -/
import Derived.Test.YtjpnbhcoagnpjaaCacheRef
import Derived.Test.YtjpnbhcoagnpjaaCacheWrite
namespace Go.Proofs.Ytjpnbhcoagnpjaa
namespace Ca
open Go.RowKit Go.Proofs.YtjpnbhcoagnpjaaW.PrintWords Go.Proofs.YtjpnbhcoagnpjaaW.PrintLast Go.Proofs.YtjpnbhcoagnpjaaW.PrintMore
open Go.Proofs.Ytjpnbhcoagnpjaa.PCacheTells
set_option linter.unusedVariables false
set_option linter.unusedSimpArgs false

def beats (l : List S56) (i k : Nat) : Bool :=
  decide ((rd_T56 l k).f2 = 0) && (decide ((rd_T56 l k).f1 < (rd_T56 l i).f1) || (decide ((rd_T56 l k).f1 = (rd_T56 l i).f1) && decide (k < i)))
def allF (l : List S56) (i : Nat) : Nat → Nat → Bool
  | 0, _ => true
  | d + 1, j => !beats l i j && allF l i d (j + 1)
def leastB (l : List S56) (i : Nat) : Bool := ((rd_T56 l i).f2 == 0) && allF l i l.length 0
def refV (l : List S56) : Nat → Nat → Int × Int
  | 0, _ => (0, 18)
  | d + 1, i => if leastB l i then ((i : Int), 0) else refV l d (i + 1)
def refE (l : List S56) : Nat → Nat → Int × Int
  | 0, _ => refV l l.length 0
  | d + 1, i => if (rd_T56 l i).f0 < 0 then ((i : Int), 0) else refE l d (i + 1)
theorem vic_l2 (l : List S56) (hn : l.length ≤ 1000000) (i : Nat) (hi : i < l.length) (r : Int × Int) (hnext : Ev (fun k => haymowref16_Victim.l1 k l ((i + 1 : Nat) : Int)) r) : ∀ (d j : Nat) (b : Bool), j + d = l.length →
    Ev (fun k => haymowref16_Victim.l2 k l i b j) (if b && allF l i d j then ((i : Int), 0) else r)
  | 0, j, b, hj => by
    rw [allF, Bool.and_true]
    cases b
    · refine Ev.step (f := fun k => haymowref16_Victim.l1 k l ((i + 1 : Nat) : Int)) (fun k => ?_) hnext
      simp only [haymowref16_Victim.l2]
      rw [if_neg (by omega), if_neg (by simp), wrapn _ (by omega)]
    · refine Ev.step (f := fun k => some ((i : Int), 0)) (fun k => ?_) (Ev.now _)
      simp only [haymowref16_Victim.l2]
      rw [if_neg (by omega), if_pos trivial]
  | d + 1, j, b, hj => by
    have hjl : j < l.length := by omega
    cases hb : beats l i j
    · have ih := vic_l2 l hn i hi r hnext d (j + 1) b (by omega)
      rw [allF, hb, Bool.not_false, Bool.true_and]
      refine Ev.step (f := fun k => haymowref16_Victim.l2 k l i b ((j + 1 : Nat) : Int)) (fun k => ?_) ih
      simp only [haymowref16_Victim.l2]
      rw [if_pos (by omega), if_pos (by omega), wrapn _ (by omega)]
      simp only [beats, Bool.and_eq_false_iff, Bool.or_eq_false_iff, decide_eq_false_iff_not] at hb
      by_cases h2 : (rd_T56 l j).f2 = 0
      · obtain ⟨h3, h4⟩ : ¬ (rd_T56 l j).f1 < (rd_T56 l i).f1 ∧ (¬ (rd_T56 l j).f1 = (rd_T56 l i).f1 ∨ ¬ j < i) := by
          rcases hb with hb | hb
          · exact absurd h2 hb
          · exact hb
        rw [if_pos h2, if_pos (by omega), if_pos (by omega), if_neg h3]
        by_cases h5 : (rd_T56 l j).f1 = (rd_T56 l i).f1
        · rw [if_pos h5, if_neg (by omega)]
        · rw [if_neg h5]
      · rw [if_neg h2]
    · have ih := vic_l2 l hn i hi r hnext d (j + 1) false (by omega)
      rw [allF, hb, Bool.not_true, Bool.false_and, Bool.and_false]
      rw [Bool.false_and] at ih
      refine Ev.step (f := fun k => haymowref16_Victim.l2 k l i false ((j + 1 : Nat) : Int)) (fun k => ?_) ih
      simp only [haymowref16_Victim.l2]
      rw [if_pos (by omega), if_pos (by omega), wrapn _ (by omega)]
      simp only [beats, Bool.and_eq_true, Bool.or_eq_true, decide_eq_true_eq] at hb
      obtain ⟨h2, hb⟩ := hb
      rw [if_pos h2, if_pos (by omega), if_pos (by omega)]
      by_cases h3 : (rd_T56 l j).f1 < (rd_T56 l i).f1
      · rw [if_pos h3]
      · obtain ⟨h4, h5⟩ : (rd_T56 l j).f1 = (rd_T56 l i).f1 ∧ j < i := by
          rcases hb with hb | hb
          · exact absurd hb h3
          · exact hb
        rw [if_neg h3, if_pos h4, if_pos (by omega)]
theorem vic_l1 (l : List S56) (hn : l.length ≤ 1000000) : ∀ (d i : Nat), i + d = l.length → Ev (fun k => haymowref16_Victim.l1 k l i) (refV l d i)
  | 0, i, hi => by
    refine Ev.step (f := fun k => some (0, 18)) (fun k => ?_) (Ev.now _)
    simp only [haymowref16_Victim.l1]
    rw [if_neg (by omega)]
  | d + 1, i, hi => by
    have ih := vic_l1 l hn d (i + 1) (by omega)
    have h2 := vic_l2 l hn i (by omega) _ ih l.length 0 ((rd_T56 l i).f2 == 0) (by omega)
    refine Ev.step (f := fun k => haymowref16_Victim.l2 k l i ((rd_T56 l i).f2 == 0) ((0 : Nat) : Int)) (fun k => ?_) h2
    simp only [haymowref16_Victim.l1]
    rw [if_pos (by omega), if_pos (by omega)]
    rfl
theorem vic_l0 (l : List S56) (hn : l.length ≤ 1000000) : ∀ (d i : Nat), i + d = l.length → Ev (fun k => haymowref16_Victim.l0 k l i) (refE l d i)
  | 0, i, hi => by
    refine Ev.step (f := fun k => haymowref16_Victim.l1 k l ((0 : Nat) : Int)) (fun k => ?_) (vic_l1 l hn l.length 0 (by omega))
    simp only [haymowref16_Victim.l0]
    rw [if_neg (by omega)]
    rfl
  | d + 1, i, hi => by
    have ih := vic_l0 l hn d (i + 1) (by omega)
    rw [refE]
    by_cases h0 : (rd_T56 l i).f0 < 0
    · rw [if_pos h0]
      refine Ev.step (f := fun k => some ((i : Int), 0)) (fun k => ?_) (Ev.now _)
      simp only [haymowref16_Victim.l0]
      rw [if_pos (by omega), if_pos (by omega), if_pos h0]
    · rw [if_neg h0]
      refine Ev.step (f := fun k => haymowref16_Victim.l0 k l ((i + 1 : Nat) : Int)) (fun k => ?_) ih
      simp only [haymowref16_Victim.l0]
      rw [if_pos (by omega), if_pos (by omega), if_neg h0, wrapn _ (by omega)]
theorem allF_true (l : List S56) (i : Nat) : ∀ (d j : Nat), allF l i d j = true ↔ ∀ k, j ≤ k → k < j + d → beats l i k = false
  | 0, j => by
    simp only [allF, true_iff]
    intro k h1 h2
    omega
  | d + 1, j => by
    rw [allF, Bool.and_eq_true, Bool.not_eq_true', allF_true l i d (j + 1)]
    constructor
    · intro ⟨h1, h2⟩ k h3 h4
      by_cases e : k = j
      · rw [e]; exact h1
      · exact h2 k (by omega) (by omega)
    · intro h
      exact ⟨h j (Nat.le_refl _) (by omega), fun k h3 h4 => h k (by omega) (by omega)⟩
/-- What Victim has seen of the first n lines, none of which is empty. -/
theorem vicF_full (l : List S56) (hfull : ∀ i, i < l.length → 0 ≤ (rd_T56 l i).f0) : ∀ n, n ≤ l.length →
    (match vicF l n with
     | none => ∀ k, k < n → (rd_T56 l k).f2 ≠ 0
     | some b => b < n ∧ (rd_T56 l b).f2 = 0 ∧ ∀ k, k < n → (rd_T56 l k).f2 = 0 → (rd_T56 l b).f1 ≤ (rd_T56 l k).f1 ∧ ((rd_T56 l k).f1 = (rd_T56 l b).f1 → b ≤ k))
  | 0, _ => by
    simp only [vicF]
    intro k h
    omega
  | n + 1, hn => by
    have ih := vicF_full l hfull n (by omega)
    rw [vicF]
    cases hv : vicF l n with
    | none =>
      rw [hv] at ih
      simp only at ih
      by_cases h2 : (rd_T56 l n).f2 = 0
      · have hc : vicC l none (rd_T56 l n) = true := by simp [vicC, h2]
        rw [hc, if_pos rfl]
        refine ⟨by omega, h2, fun k hk hk2 => ?_⟩
        by_cases e : k = n
        · subst e; omega
        · exact absurd hk2 (ih k (by omega))
      · have hc : vicC l none (rd_T56 l n) = false := by simp [vicC, h2]
        rw [hc, if_neg (by simp)]
        intro k hk
        by_cases e : k = n
        · subst e; exact h2
        · exact ih k (by omega)
    | some b =>
      rw [hv] at ih
      simp only at ih
      obtain ⟨hb, hb2, hbest⟩ := ih
      have f0 := hfull b (by omega)
      have f1 := hfull n (by omega)
      have hless : vless (rd_T56 l n) (rd_T56 l b) = decide ((rd_T56 l n).f1 < (rd_T56 l b).f1) := by
        rw [vless, decide_eq_false (by omega : ¬ (rd_T56 l b).f0 < 0), decide_eq_false (by omega : ¬ (rd_T56 l n).f0 < 0)]
        simp
      by_cases h2 : (rd_T56 l n).f2 = 0
      · by_cases h3 : (rd_T56 l n).f1 < (rd_T56 l b).f1
        · have hc : vicC l (some b) (rd_T56 l n) = true := by simp [vicC, h2, hless, h3]
          rw [hc, if_pos rfl]
          refine ⟨by omega, h2, fun k hk hk2 => ?_⟩
          by_cases e : k = n
          · subst e; omega
          · have := hbest k (by omega) hk2
            omega
        · have hc : vicC l (some b) (rd_T56 l n) = false := by simp [vicC, h2, hless]; omega
          rw [hc, if_neg (by simp)]
          refine ⟨by omega, hb2, fun k hk hk2 => ?_⟩
          by_cases e : k = n
          · subst e; omega
          · exact hbest k (by omega) hk2
      · have hc : vicC l (some b) (rd_T56 l n) = false := by simp [vicC, h2]
        rw [hc, if_neg (by simp)]
        refine ⟨by omega, hb2, fun k hk hk2 => ?_⟩
        by_cases e : k = n
        · subst e; exact absurd hk2 h2
        · exact hbest k (by omega) hk2
/-- The first empty line is the victim. -/
theorem vicF_empty (l : List S56) (i : Nat) (hi : i < l.length) (he : (rd_T56 l i).f0 < 0) (h2 : (rd_T56 l i).f2 = 0) (hfirst : ∀ k, k < i → 0 ≤ (rd_T56 l k).f0) : ∀ n,
    (n ≤ i → ∀ b, vicF l n = some b → b < n) ∧ (i < n → vicF l n = some i)
  | 0 => ⟨fun _ b h => by simp [vicF] at h, fun h => by omega⟩
  | n + 1 => by
    have ih := vicF_empty l i hi he h2 hfirst n
    refine ⟨fun hn b hb => vicF_lt l (n + 1) b hb, fun hn => ?_⟩
    rw [vicF]
    by_cases e : n = i
    · subst e
      have hc : vicC l (vicF l n) (rd_T56 l n) = true := by
        cases hv : vicF l n with
        | none => simp [vicC, h2]
        | some b =>
          have hb := ih.1 (Nat.le_refl _) b hv
          have f0 := hfirst b hb
          simp only [vicC, h2, vless]
          rw [decide_eq_false (by omega : ¬ (rd_T56 l b).f0 < 0), decide_eq_true he]
          rfl
      rw [hc, if_pos rfl]
    · have hv := ih.2 (by omega)
      have hc : vicC l (vicF l n) (rd_T56 l n) = false := by
        rw [hv]
        simp only [vicC, vless]
        rw [decide_eq_true he]
        simp
      rw [hc, if_neg (by simp)]
      exact hv
theorem refV_eq (l : List S56) (hfull : ∀ i, i < l.length → 0 ≤ (rd_T56 l i).f0) : ∀ (d i : Nat), i + d = l.length → (∀ b, vicF l l.length = some b → i ≤ b) →
    refV l d i = (match vicF l l.length with | none => (0, 18) | some j => ((j : Int), 0))
  | 0, i, hi, hb => by
    have h := vicF_full l hfull l.length (Nat.le_refl _)
    cases hv : vicF l l.length with
    | none => rfl
    | some b =>
      rw [hv] at h
      have := hb b hv
      have := h.1
      omega
  | d + 1, i, hi, hb => by
    have h := vicF_full l hfull l.length (Nat.le_refl _)
    have ih := refV_eq l hfull d (i + 1) (by omega)
    rw [refV]
    cases hv : vicF l l.length with
    | none =>
      rw [hv] at h ih
      simp only at h
      have hl : leastB l i = false := by
        rw [leastB]
        have := h i (by omega)
        simp [this]
      rw [hl, if_neg (by simp), ih (fun b hb => by cases hb)]
    | some b =>
      rw [hv] at h ih hb
      simp only at h
      obtain ⟨hb1, hb2, hbest⟩ := h
      have hib := hb b rfl
      by_cases e : b = i
      · subst e
        have hl : leastB l b = true := by
          rw [leastB, Bool.and_eq_true]
          refine ⟨by simpa using hb2, (allF_true _ _ _ _).2 fun k _ hk => ?_⟩
          simp only [beats]
          by_cases hk2 : (rd_T56 l k).f2 = 0
          · have := hbest k (by omega) hk2
            rw [decide_eq_true hk2, decide_eq_false (by omega : ¬ (rd_T56 l k).f1 < (rd_T56 l b).f1)]
            by_cases he : (rd_T56 l k).f1 = (rd_T56 l b).f1
            · rw [decide_eq_false (by omega : ¬ k < b)]; simp
            · rw [decide_eq_false he]; simp
          · rw [decide_eq_false hk2]; simp
        rw [hl, if_pos rfl]
      · have hl : leastB l i = false := by
          rw [leastB]
          by_cases hi2 : (rd_T56 l i).f2 = 0
          · have hnot : allF l i l.length 0 = false := by
              cases hall : allF l i l.length 0
              · rfl
              · have h3 := (allF_true _ _ _ _).1 hall b (Nat.zero_le _) (by omega)
                have h4 := hbest i (by omega) hi2
                simp only [beats] at h3
                rw [decide_eq_true hb2, decide_eq_true (by omega : (rd_T56 l b).f1 < (rd_T56 l i).f1)] at h3
                simp at h3
            rw [hnot, Bool.and_false]
          · have : ((rd_T56 l i).f2 == 0) = false := by simpa using hi2
            rw [this, Bool.false_and]
        rw [hl, if_neg (by simp), ih (fun c hc => by cases hc; omega)]
theorem refE_eq (l : List S56) (hm : mayB l = true) : ∀ (d i : Nat), i + d = l.length → (∀ k, k < i → 0 ≤ (rd_T56 l k).f0) →
    refE l d i = (match vicF l l.length with | none => (0, 18) | some j => ((j : Int), 0))
  | 0, i, hi, hf => by
    rw [refE]
    exact refV_eq l (fun k hk => hf k (by omega)) l.length 0 (by omega) (fun b _ => Nat.zero_le _)
  | d + 1, i, hi, hf => by
    have ih := refE_eq l hm d (i + 1) (by omega)
    rw [refE]
    by_cases h0 : (rd_T56 l i).f0 < 0
    · have hb := okL_bounds (may_at hm (show i < l.length by omega))
      have hv := (vicF_empty l i (by omega) h0 (by omega) hf l.length).2 (by omega)
      rw [if_pos h0, hv]
    · rw [if_neg h0]
      exact ih fun k hk => by
        by_cases e : k = i
        · subst e; omega
        · exact hf k (by omega)
theorem victim_ref (l : List S56) (hn : l.length ≤ 1000000) : ∃ k, haymowref16_Victim.f k l = some (victimP l) := by
  refine Ev.rounds ?_
  have hm := may_ref l hn
  cases hb : mayB l
  · rw [hb] at hm
    have e : victimP l = (0, 1) := by rw [victimP, hb]; rfl
    rw [e]
    exact Ev.bind (f := fun n t => if t = true then haymowref16_Victim.l0 n l 0 else some (0, 1)) hm (Ev.congr (f := fun _ => some (0, 1)) (fun k => by simp) (Ev.now _))
  · rw [hb] at hm
    have h := vic_l0 l hn l.length 0 (by omega)
    have e : victimP l = refE l l.length 0 := by
      rw [victimP, if_pos hb, refE_eq l hb l.length 0 (by omega) (fun k hk => by omega)]
      rfl
    rw [e]
    exact Ev.bind (f := fun n t => if t = true then haymowref16_Victim.l0 n l 0 else some (0, 1)) hm (Ev.congr (f := fun k => haymowref16_Victim.l0 k l ((0 : Nat) : Int)) (fun k => by simp) h)
end Ca
end Go.Proofs.Ytjpnbhcoagnpjaa
