/- The references May, Find and Victim of layer 16 answer as the program does: plain Lean. -/
import Derived.Test.YtjpnbhcoagnpjaaCacheVictim
namespace Go.Proofs.Ytjpnbhcoagnpjaa
namespace Ca
open Go.RowKit Go.Proofs.YtjpnbhcoagnpjaaW.PrintWords Go.Proofs.YtjpnbhcoagnpjaaW.PrintLast Go.Proofs.YtjpnbhcoagnpjaaW.PrintMore
open Go.Proofs.Ytjpnbhcoagnpjaa.PCacheTells
set_option linter.unusedVariables false
set_option linter.unusedSimpArgs false

theorem wrapn (i : Nat) (h : i ≤ 1000000) : wrap64 ((i : Int) + 1) = ((i + 1 : Nat) : Int) := by unfold wrap64; omega
theorem rd_get {l : List S56} {k : Nat} (h : k < l.length) : rd_T56 l k = l[k] := by
  simp [rd_T56, List.getD_eq_getElem?_getD, List.getElem?_eq_getElem h]
def seenL (l : List S56) (i : Nat) (y : Int) : Bool := (l.take i).any (fun z => decide (y = z.f0))
theorem seenL_succ {l : List S56} {i : Nat} (h : i < l.length) : seenL l (i + 1) = fun y => decide (y = (rd_T56 l i).f0) || seenL l i y := by
  funext y
  rw [seenL, List.take_succ_eq_append_getElem h, List.any_append, rd_get h]
  simp [seenL, Bool.or_comm]
theorem ref_bad {α : Type} (f : Bool → α) (x : S56) :
    (if x.f0 < (-1) then f true else if x.f1 < 0 then f true else if x.f1 > 2147483647 then f true else if x.f2 < 0 then f true else if x.f2 > 99 then f true else if x.f0 < 0 then (if x.f1 > 0 then f true else f (decide (x.f2 > 0))) else f false) = f (!okL x) := by
  have key : ∀ b : Bool, b = (!okL x) → f b = f (!okL x) := fun b h => by rw [h]
  repeat' split
  all_goals apply key
  all_goals simp only [okL, badL, inB]
  all_goals rw [Bool.eq_iff_iff]
  all_goals simp
  all_goals omega
theorem may_l1 (l : List S56) (hn : l.length ≤ 1000000) (i : Nat) (hi : i < l.length) (f0 f1 f2 : Int) (r : Bool) (hnext : Ev (fun k => haymowref16_May.l0 k l ((i + 1 : Nat) : Int)) r) : ∀ (d j : Nat), j + d = i →
    Ev (fun k => haymowref16_May.l1 k l i j f0 f1 f2) (if decide (0 ≤ f0) && ((l.take i).drop j).any (fun z => decide (f0 = z.f0)) then false else r)
  | 0, j, hj => by
    obtain rfl : j = i := by omega
    have e : (l.take j).drop j = [] := by rw [List.drop_eq_nil_iff]; simp; omega
    rw [e]
    simp only [List.any_nil, Bool.and_false, Bool.false_eq_true, if_false]
    refine Ev.step (f := fun k => haymowref16_May.l0 k l ((j + 1 : Nat) : Int)) (fun k => ?_) hnext
    simp only [haymowref16_May.l1]
    rw [if_neg (by omega), wrapn _ (by omega)]
  | d + 1, j, hj => by
    have hjl : j < (l.take i).length := by simp; omega
    have ih := may_l1 l hn i hi f0 f1 f2 r hnext d (j + 1) (by omega)
    have hg : (l.take i)[j] = l[j]'(by omega) := by simp
    rw [List.drop_eq_getElem_cons hjl, List.any_cons, hg]
    by_cases h0 : 0 ≤ f0
    · by_cases he : f0 = (l[j]'(by omega)).f0
      · rw [decide_eq_true h0, decide_eq_true he]
        simp only [Bool.true_or, Bool.and_self, if_true]
        refine Ev.step (f := fun k => some false) (fun k => ?_) (Ev.now false)
        simp only [haymowref16_May.l1]
        rw [if_pos (by omega), if_pos (by omega), if_pos (by omega), if_pos (by omega), rd_get (by omega), if_pos he.symm]
      · rw [decide_eq_false he, Bool.false_or]
        refine Ev.step (f := fun k => haymowref16_May.l1 k l i ((j + 1 : Nat) : Int) f0 f1 f2) (fun k => ?_) ih
        simp only [haymowref16_May.l1]
        rw [if_pos (by omega), if_pos (by omega), if_pos (by omega), if_pos (by omega), rd_get (by omega), if_neg (fun h => he h.symm), wrapn _ (by omega)]
    · rw [decide_eq_false h0] at ih ⊢
      simp only [Bool.false_and] at ih ⊢
      refine Ev.step (f := fun k => haymowref16_May.l1 k l i ((j + 1 : Nat) : Int) f0 f1 f2) (fun k => ?_) ih
      simp only [haymowref16_May.l1]
      rw [if_pos (by omega), if_neg (by omega), wrapn _ (by omega)]
theorem may_l0 (l : List S56) (hn : l.length ≤ 1000000) : ∀ (d i : Nat), i + d = l.length →
    Ev (fun k => haymowref16_May.l0 k l i) (mayC (l.drop i) (seenL l i) && decide (1 ≤ l.length) && decide (l.length ≤ 256))
  | 0, i, hi => by
    rw [List.drop_of_length_le (by omega), mayC, Bool.true_and]
    by_cases h1 : 1 ≤ l.length
    · rw [decide_eq_true h1, Bool.true_and]
      refine Ev.step (f := fun k => some (decide (l.length ≤ 256))) (fun k => ?_) (Ev.now _)
      simp only [haymowref16_May.l0]
      rw [if_neg (by omega), if_pos (by omega)]
      congr 1
      exact decide_eq_decide.2 (by omega)
    · rw [decide_eq_false h1, Bool.false_and]
      refine Ev.step (f := fun k => some false) (fun k => ?_) (Ev.now _)
      simp only [haymowref16_May.l0]
      rw [if_neg (by omega), if_neg (by omega)]
  | d + 1, i, hi => by
    have hlt : i < l.length := by omega
    have ih := may_l0 l hn d (i + 1) (by omega)
    rw [seenL_succ hlt] at ih
    rw [drop_cons hlt, mayC]
    have hS : seenL l i (rd_T56 l i).f0 = (l.take i).any (fun z => decide ((rd_T56 l i).f0 = z.f0)) := rfl
    have hl1 := may_l1 l hn i hlt (rd_T56 l i).f0 (rd_T56 l i).f1 (rd_T56 l i).f2 _ ih i 0 (by omega)
    rw [List.drop_zero, ← hS] at hl1
    cases hok : okL (rd_T56 l i)
    · simp only [Bool.false_and]
      refine Ev.step (f := fun k => haymowref16_May.j1 k l i (!okL (rd_T56 l i)) (rd_T56 l i).f0 (rd_T56 l i).f1 (rd_T56 l i).f2) (fun k => ?_) ?_
      · simp only [haymowref16_May.l0]
        rw [if_pos (by omega), if_pos (by omega)]
        exact ref_bad (fun b => haymowref16_May.j1 k l i b (rd_T56 l i).f0 (rd_T56 l i).f1 (rd_T56 l i).f2) (rd_T56 l i)
      · refine Ev.step (f := fun k => some false) (fun k => ?_) (Ev.now _)
        simp only [haymowref16_May.j1]
        rw [hok]
        rfl
    · refine Ev.step (f := fun k => haymowref16_May.j1 k l i (!okL (rd_T56 l i)) (rd_T56 l i).f0 (rd_T56 l i).f1 (rd_T56 l i).f2) (fun k => ?_) ?_
      · simp only [haymowref16_May.l0]
        rw [if_pos (by omega), if_pos (by omega)]
        exact ref_bad (fun b => haymowref16_May.j1 k l i b (rd_T56 l i).f0 (rd_T56 l i).f1 (rd_T56 l i).f2) (rd_T56 l i)
      · refine Ev.step (f := fun k => haymowref16_May.l1 k l i ((0 : Nat) : Int) (rd_T56 l i).f0 (rd_T56 l i).f1 (rd_T56 l i).f2) (fun k => ?_) ?_
        · simp only [haymowref16_May.j1]
          rw [hok, if_neg (by simp)]
          rfl
        · cases hd : (decide (0 ≤ (rd_T56 l i).f0) && seenL l i (rd_T56 l i).f0)
          · rw [hd] at hl1
            simpa using hl1
          · rw [hd] at hl1
            simpa using hl1
theorem may_ref (l : List S56) (hn : l.length ≤ 1000000) : Ev (fun k => haymowref16_May.f k l) (mayB l) := by
  have h := may_l0 l hn l.length 0 (by omega)
  rw [List.drop_zero] at h
  exact h
/-- ref.Find. -/
theorem find_l0 (l : List S56) (s : Int) (hn : l.length ≤ 1000000) : ∀ (d i : Nat), i + d = l.length →
    Ev (fun k => haymowref16_Find.l0 k l s i) (match findN (l.drop i) s with | none => (0, 6) | some j => if s < 0 then (0, 6) else (((i + j : Nat) : Int), 0))
  | 0, i, hi => by
    rw [List.drop_of_length_le (by omega), findN]
    refine Ev.step (f := fun k => haymowref16_Find.j1 k l s i false) (fun k => ?_) (Ev.step (f := fun k => some (0, 6)) (fun k => ?_) (Ev.now _))
    · simp only [haymowref16_Find.l0]
      rw [if_neg (by omega)]
    · simp only [haymowref16_Find.j1]
      rw [if_neg (by simp)]
  | d + 1, i, hi => by
    have hlt : i < l.length := by omega
    have ih := find_l0 l s hn d (i + 1) (by omega)
    rw [drop_cons hlt, findN]
    refine Ev.step (f := fun k => haymowref16_Find.j1 k l s i (decide (s ≥ 0))) (fun k => ?_) ?_
    · simp only [haymowref16_Find.l0]
      rw [if_pos (by omega)]
    by_cases hs : s < 0
    · have e : (match (if (rd_T56 l i).f0 = s then some 0 else (findN (l.drop (i + 1)) s).map (· + 1)) with | none => ((0, 6) : Int × Int) | some j => if s < 0 then (0, 6) else (((i + j : Nat) : Int), 0)) = (0, 6) := by
        split
        · rfl
        · rw [if_pos hs]
      rw [e]
      refine Ev.step (f := fun k => some (0, 6)) (fun k => ?_) (Ev.now _)
      simp only [haymowref16_Find.j1]
      rw [if_neg (by simp; omega)]
    · by_cases he : (rd_T56 l i).f0 = s
      · rw [if_pos he]
        simp only [if_neg hs]
        refine Ev.step (f := fun k => some ((i : Int), 0)) (fun k => ?_) (Ev.now _)
        simp only [haymowref16_Find.j1]
        rw [if_pos (by simp; omega), if_pos (by omega), if_pos (by omega), if_pos he]
      · rw [if_neg he]
        have e : (match (findN (l.drop (i + 1)) s).map (· + 1) with | none => ((0, 6) : Int × Int) | some j => if s < 0 then (0, 6) else (((i + j : Nat) : Int), 0)) = (match findN (l.drop (i + 1)) s with | none => (0, 6) | some j => if s < 0 then (0, 6) else (((i + 1 + j : Nat) : Int), 0)) := by
          cases findN (l.drop (i + 1)) s with
          | none => rfl
          | some v =>
            simp only [Option.map_some]
            rw [show i + (v + 1) = i + 1 + v by omega]
        rw [e]
        refine Ev.step (f := fun k => haymowref16_Find.l0 k l s ((i + 1 : Nat) : Int)) (fun k => ?_) ih
        simp only [haymowref16_Find.j1]
        rw [if_pos (by simp; omega), if_pos (by omega), if_pos (by omega), if_neg he, wrapn _ (by omega)]
theorem find_ref (l : List S56) (s : Int) (hn : l.length ≤ 1000000) : ∃ k, haymowref16_Find.f k l s = some (findP l s) := by
  refine Ev.rounds ?_
  have hm := may_ref l hn
  cases hb : mayB l
  · rw [hb] at hm
    have e : findP l s = (0, 1) := by rw [findP, hb]; rfl
    rw [e]
    exact Ev.bind (f := fun n t => if t = true then haymowref16_Find.l0 n l s 0 else some (0, 1)) hm (Ev.congr (f := fun _ => some (0, 1)) (fun k => by simp) (Ev.now _))
  · rw [hb] at hm
    have h := find_l0 l s hn l.length 0 (by omega)
    rw [List.drop_zero] at h
    have e : findP l s = (match findN l s with | none => (0, 6) | some j => if s < 0 then (0, 6) else (((0 + j : Nat) : Int), 0)) := by
      rw [findP, if_pos hb]
      cases findN l s <;> simp
    rw [e]
    exact Ev.bind (f := fun n t => if t = true then haymowref16_Find.l0 n l s 0 else some (0, 1)) hm (Ev.congr (f := fun k => haymowref16_Find.l0 k l s ((0 : Nat) : Int)) (fun k => by simp) h)
end Ca
end Go.Proofs.Ytjpnbhcoagnpjaa
