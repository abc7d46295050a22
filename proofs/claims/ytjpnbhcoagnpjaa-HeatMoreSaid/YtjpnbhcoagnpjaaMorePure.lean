/- More asked for is more picked; a younger age is more that is cold. -/
import Derived.Test.YtjpnbhcoagnpjaaHeatPickLaw
namespace Go.Proofs.Ytjpnbhcoagnpjaa
open Go.Proofs.Ytjpnbhcoagnpjaa.PHeatPicks
set_option linter.unusedVariables false
set_option linter.unusedSimpArgs false

def preR : List S35 → List S35 → Prop
  | [], _ => True
  | _ :: _, [] => False
  | x :: r, y :: s => x.f0 = y.f0 ∧ x.f1 = y.f1 ∧ x.f2 ≤ y.f2 ∧ (r ≠ [] → x = y) ∧ preR r s
theorem preR_length : ∀ {l m : List S35}, preR l m → l.length ≤ m.length
  | [], _, _ => by simp
  | _ :: _, [], h => h.elim
  | x :: r, y :: s, h => by simpa using preR_length h.2.2.2.2
theorem preR_at : ∀ {l m : List S35}, preR l m → ∀ k, k < l.length → (rd_T35 l k).f0 = (rd_T35 m k).f0 ∧ (rd_T35 l k).f1 = (rd_T35 m k).f1 ∧ (rd_T35 l k).f2 ≤ (rd_T35 m k).f2 ∧ (k + 1 < l.length → rd_T35 l k = rd_T35 m k)
  | [], _, _, k, hk => by simp at hk
  | _ :: _, [], h, _, _ => h.elim
  | x :: r, y :: s, h, 0, _ => ⟨h.1, h.2.1, h.2.2.1, fun hk => h.2.2.2.1 (by intro e; subst e; simp at hk)⟩
  | x :: r, y :: s, h, k + 1, hk => by
    have h1 := preR_at h.2.2.2.2 k (by simpa using hk)
    have e : ∀ (a : S35) (t : List S35), rd_T35 (a :: t) ((k + 1 : Nat) : Int) = rd_T35 t (k : Int) := fun a t => by simp [rd_T35]
    rw [e, e]
    exact ⟨h1.1, h1.2.1, h1.2.2.1, fun h2 => h1.2.2.2 (by simpa using h2)⟩
theorem pickR_zero (l : List S35) (h : ∀ x ∈ l, 0 < x.f2) : pickR l 0 = [] := by
  cases l with
  | nil => rfl
  | cons x r =>
    have := h x (by simp)
    rw [pickR, if_pos (by rw [cutB, if_pos this])]
theorem pick_pre : ∀ (l : List S35) (a b : Int), (∀ x ∈ l, 0 < x.f2) → 0 ≤ a → a ≤ b → preR (pickR l a) (pickR l b)
  | [], _, _, _, _, _ => trivial
  | x :: r, a, b, h, h0, hab => by
    have hx := h x (by simp)
    have hr : ∀ y ∈ r, 0 < y.f2 := fun y hy => h y (by simp [hy])
    by_cases hz : a = 0
    · subst hz
      rw [pickR_zero _ h]
      trivial
    · by_cases hax : a < x.f2
      · have ha : cutB x a = ⟨x.f0, x.f1, a⟩ := by rw [cutB, if_pos hax]
        have hl : pickR (x :: r) a = [⟨x.f0, x.f1, a⟩] := by
          rw [pickR, ha, if_neg (by simpa using hz)]
          simp [pickR_zero r hr]
        rw [hl, pickR]
        have hcb : a ≤ (cutB x b).f2 := by
          unfold cutB
          simp only
          split <;> omega
        rw [if_neg (by omega)]
        exact ⟨rfl, rfl, hcb, fun h => absurd rfl h, trivial⟩
      · have ha : cutB x a = x := by rw [cutB, if_neg hax]
        have hb : cutB x b = x := by rw [cutB, if_neg (by omega)]
        rw [pickR, pickR, ha, hb, if_neg (by omega), if_neg (by omega)]
        exact ⟨rfl, rfl, Int.le_refl _, fun _ => rfl, pick_pre r _ _ hr (by omega) (by omega)⟩
theorem cold_more {l : List S35} {now a b : Int} (h : coldB l now a = true) (h0 : 0 ≤ b) (hab : b ≤ a) :
    coldB l now b = true ∧ (coldL l now a).length ≤ (coldL l now b).length ∧ (coldL l now b).take (coldL l now a).length = coldL l now a := by
  have hb : coldB l now b = true := by
    simp only [coldB, inB, Bool.and_eq_true, decide_eq_true_eq] at h ⊢
    exact ⟨h.1, h0, by omega⟩
  have hla : coldL l now a = HeapPure.sortL ahd (l.filter (isCold now a)) := by rw [coldL, if_pos h]
  have hlb : coldL l now b = HeapPure.sortL ahd (l.filter (isCold now b)) := by rw [coldL, if_pos hb]
  have hA := HeapPure.sortL_spec ahd_ord (l.filter (isCold now a))
  have hB := HeapPure.sortL_spec ahd_ord (l.filter (isCold now b))
  have hR := HeapPure.sortL_spec ahd_ord ((l.filter (isCold now b)).filter (fun x => !isCold now a x))
  have hf : (l.filter (isCold now b)).filter (isCold now a) = l.filter (isCold now a) := by
    rw [List.filter_filter]
    congr 1
    funext x
    rw [Bool.eq_iff_iff]
    simp only [isCold, Bool.and_eq_true, decide_eq_true_eq]
    omega
  have hp : (HeapPure.sortL ahd (l.filter (isCold now b))).Perm (HeapPure.sortL ahd (l.filter (isCold now a)) ++ HeapPure.sortL ahd ((l.filter (isCold now b)).filter (fun x => !isCold now a x))) := by
    refine hB.1.trans (.trans ?_ (hA.1.append hR.1).symm)
    have := List.filter_append_perm (isCold now a) (l.filter (isCold now b))
    rw [hf] at this
    exact this.symm
  have hs : (HeapPure.sortL ahd (l.filter (isCold now a)) ++ HeapPure.sortL ahd ((l.filter (isCold now b)).filter (fun x => !isCold now a x))).Pairwise (fun a b => ahd b a = false) := by
    refine List.pairwise_append.2 ⟨hA.2, hR.2, fun x hx y hy => ?_⟩
    have h1 := (List.mem_filter.1 (hA.1.subset hx)).2
    have h2 := List.mem_filter.1 (hR.1.subset hy)
    have h3 := (List.mem_filter.1 h2.1).2
    have h4 := h2.2
    simp only [isCold, Bool.and_eq_true, decide_eq_true_eq, Bool.not_eq_true', Bool.and_eq_false_iff, decide_eq_false_iff_not] at h1 h3 h4
    have hlt : x.f1 < y.f1 := by omega
    rw [ahd, if_neg (by omega)]
    simp only [decide_eq_false_iff_not]
    omega
  have he := HeapPure.sorted_unique ahd_ord hp hB.2 hs
  rw [hla, hlb, he]
  exact ⟨hb, by simp, by simp⟩
end Go.Proofs.Ytjpnbhcoagnpjaa
