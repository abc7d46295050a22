/- The document's answer on cold files is the heap's: ref.May, ref.Cold, ref.Pick, ref.Same. -/
import Derived.Test.YtjpnbhcoagnpjaaHeatPick
import Derived.Test.YtjpnbhcoagnpjaaPHeatPicksx3
namespace Go.Proofs.Ytjpnbhcoagnpjaa
open Go.RowKit Go.Proofs.YtjpnbhcoagnpjaaW.PrintWords Go.Proofs.YtjpnbhcoagnpjaaW.PrintLast Go.Proofs.YtjpnbhcoagnpjaaW.PrintMore
open Go.Proofs.Ytjpnbhcoagnpjaa.PHeatPicks
set_option linter.unusedVariables false
set_option linter.unusedSimpArgs false

theorem wrap_in (n : Int) (h0 : -9223372036854775808 ≤ n) (h1 : n ≤ 9223372036854775807) : wrap64 n = n := by unfold wrap64; omega
theorem ref_ahead (a b : S35) : haymowref17_Ahead.f a.f0 a.f1 a.f2 b.f0 b.f1 b.f2 = some (ahd a b) := by
  unfold haymowref17_Ahead.f ahd
  by_cases h1 : a.f1 < b.f1
  · rw [if_pos h1, if_neg (by omega), decide_eq_true h1]
  · rw [if_neg h1]
    by_cases h2 : a.f1 = b.f1
    · rw [if_pos h2, if_pos h2]
      by_cases h3 : a.f2 > b.f2
      · rw [if_pos h3, if_neg (by omega), decide_eq_true h3]
      · rw [if_neg h3]
        by_cases h4 : a.f2 = b.f2
        · rw [if_pos h4, if_pos h4]
        · rw [if_neg h4, if_neg h4, decide_eq_false (by omega)]
    · rw [if_neg h2, if_neg h2, decide_eq_false (by omega)]

/-! ### ref.May -/
theorem may_in (l : List S35) (i : Nat) (hi : i < l.length) (hn : l.length ≤ 1000) (R : Bool) :
    ∀ (d j : Nat), j + d = i → ((∃ q, j ≤ q ∧ q < i ∧ (rd_T35 l q).f0 = (rd_T35 l i).f0) → R = false) → ((¬ ∃ q, j ≤ q ∧ q < i ∧ (rd_T35 l q).f0 = (rd_T35 l i).f0) → ∃ k, haymowref17_May.l0 k l ((i : Int) + 1) = some R) →
      ∃ k, haymowref17_May.l1 k l i j (rd_T35 l i).f0 (rd_T35 l i).f1 (rd_T35 l i).f2 = some R := by
  intro d
  induction d with
  | zero =>
    intro j hj h1 h2
    obtain ⟨k, hk⟩ := h2 (fun ⟨q, h1, h2, _⟩ => by omega)
    refine ⟨k + 1, ?_⟩
    simp only [haymowref17_May.l1]
    rw [if_neg (by omega), wrap_in _ (by omega) (by omega)]
    exact hk
  | succ d ih =>
    intro j hj h1 h2
    by_cases e : (rd_T35 l j).f0 = (rd_T35 l i).f0
    · refine ⟨1, ?_⟩
      simp only [haymowref17_May.l1]
      rw [if_pos (by omega), if_pos (by omega), if_pos (by omega), if_pos e, h1 ⟨j, Nat.le_refl _, by omega, e⟩]
    · obtain ⟨k, hk⟩ := ih (j + 1) (by omega) (fun ⟨q, h3, h4, h5⟩ => h1 ⟨q, by omega, h4, h5⟩) (fun hn => h2 (fun ⟨q, h3, h4, h5⟩ => by
        by_cases eq : q = j
        · subst eq; exact e h5
        · exact hn ⟨q, by omega, h4, h5⟩))
      refine ⟨k + 1, ?_⟩
      simp only [haymowref17_May.l1]
      rw [if_pos (by omega), if_pos (by omega), if_pos (by omega), if_neg e, wrap_in _ (by omega) (by omega)]
      exact hk
theorem may_out (l : List S35) (hn : l.length ≤ 1000) : ∀ (d i : Nat), i + d = l.length → ∀ S : Int → Bool, (∀ y, S y = true ↔ ∃ q, q < i ∧ (rd_T35 l q).f0 = y) → ∃ k, haymowref17_May.l0 k l i = some (mayR (l.drop i) S) := by
  intro d
  induction d with
  | zero =>
    intro i hi S _
    refine ⟨1, ?_⟩
    simp only [haymowref17_May.l0]
    rw [if_neg (by omega), List.drop_of_length_le (by omega), mayR]
  | succ d ih =>
    intro i hi S hS
    have hlt : i < l.length := by omega
    rw [drop_cons hlt, mayR]
    have hj : ∀ b : Bool, (okH (rd_T35 l i) = !b) → ∃ k, haymowref17_May.j1 k l i b (rd_T35 l i).f0 (rd_T35 l i).f1 (rd_T35 l i).f2 = some (okH (rd_T35 l i) && !S (rd_T35 l i).f0 && mayR (l.drop (i + 1)) (fun y => decide (y = (rd_T35 l i).f0) || S y)) := by
      intro b hb
      cases b with
      | true => exact ⟨1, by simp only [haymowref17_May.j1]; rw [if_pos trivial, hb]; rfl⟩
      | false =>
        have := may_in l i hlt hn (okH (rd_T35 l i) && !S (rd_T35 l i).f0 && mayR (l.drop (i + 1)) (fun y => decide (y = (rd_T35 l i).f0) || S y)) i 0 (by omega)
          (fun ⟨q, _, h1, h2⟩ => by rw [(hS _).2 ⟨q, h1, h2⟩]; simp)
          (fun hnn => by
            have hs : S (rd_T35 l i).f0 = false := by
              cases e : S (rd_T35 l i).f0
              · rfl
              · obtain ⟨q, h1, h2⟩ := (hS _).1 e
                exact absurd ⟨q, Nat.zero_le _, h1, h2⟩ hnn
            rw [hb, hs]
            simp only [Bool.not_false, Bool.true_and]
            have := ih (i + 1) (by omega) (fun y => decide (y = (rd_T35 l i).f0) || S y) (fun y => by
              simp only [Bool.or_eq_true, decide_eq_true_eq, hS]
              constructor
              · rintro (rfl | ⟨q, h1, h2⟩)
                · exact ⟨i, by omega, rfl⟩
                · exact ⟨q, by omega, h2⟩
              · rintro ⟨q, h1, h2⟩
                by_cases e : q = i
                · subst e; exact .inl h2.symm
                · exact .inr ⟨q, by omega, h2⟩)
            exact this)
        obtain ⟨k, hk⟩ := this
        exact ⟨k + 1, by simp only [haymowref17_May.j1]; rw [if_neg (by simp)]; exact hk⟩
    by_cases c1 : (rd_T35 l i).f0 < 1
    · obtain ⟨k, hk⟩ := hj true (by simp [okH]; omega)
      exact ⟨k + 1, by simp only [haymowref17_May.l0]; rw [if_pos (by omega), if_pos (by omega), if_pos c1]; exact hk⟩
    · by_cases c2 : (rd_T35 l i).f0 > 39
      · obtain ⟨k, hk⟩ := hj true (by simp [okH]; omega)
        exact ⟨k + 1, by simp only [haymowref17_May.l0]; rw [if_pos (by omega), if_pos (by omega), if_neg c1, if_pos c2]; exact hk⟩
      · by_cases c3 : (rd_T35 l i).f1 < 0
        · obtain ⟨k, hk⟩ := hj true (by simp [okH]; omega)
          exact ⟨k + 1, by simp only [haymowref17_May.l0]; rw [if_pos (by omega), if_pos (by omega), if_neg c1, if_neg c2, if_pos c3]; exact hk⟩
        · by_cases c4 : (rd_T35 l i).f1 > 2147483647
          · obtain ⟨k, hk⟩ := hj true (by simp [okH]; omega)
            exact ⟨k + 1, by simp only [haymowref17_May.l0]; rw [if_pos (by omega), if_pos (by omega), if_neg c1, if_neg c2, if_neg c3, if_pos c4]; exact hk⟩
          · by_cases c5 : (rd_T35 l i).f2 < 0
            · obtain ⟨k, hk⟩ := hj true (by simp [okH]; omega)
              exact ⟨k + 1, by simp only [haymowref17_May.l0]; rw [if_pos (by omega), if_pos (by omega), if_neg c1, if_neg c2, if_neg c3, if_neg c4, if_pos c5]; exact hk⟩
            · obtain ⟨k, hk⟩ := hj (decide ((rd_T35 l i).f2 > 2147483647)) (by rw [Bool.eq_iff_iff]; simp [okH]; omega)
              exact ⟨k + 1, by simp only [haymowref17_May.l0]; rw [if_pos (by omega), if_pos (by omega), if_neg c1, if_neg c2, if_neg c3, if_neg c4, if_neg c5]; exact hk⟩
theorem ref_may (l : List S35) (hn : l.length ≤ 1000) : ∃ k, haymowref17_May.f k l = some (mayR l (fun _ => false)) := by
  obtain ⟨k, hk⟩ := may_out l hn l.length 0 (by omega) (fun _ => false) (fun y => by simp)
  exact ⟨k, hk⟩

/-! ### ref.Cold -/
theorem eta35 (x : S35) : (⟨x.f0, x.f1, x.f2⟩ : S35) = x := rfl
theorem cold_l2 (l : List S35) (now age : Int) (out : List S35) (i : Nat) (x : S35) (R : List S35 × Bool) (hi : i < l.length) (hn : l.length ≤ 1000) (ho : out.length ≤ 1000) :
    ∀ (d j : Nat) (next : List S35), j + d = out.length → next.length ≤ 2000 + j → (∃ k, haymowref17_Cold.l0 k l now age (next ++ (out.drop j).filter (fun y => !ahd y x)) ((i : Int) + 1) = some R) →
      ∃ k, haymowref17_Cold.l2 k l now age out i next j x.f0 x.f1 x.f2 = some R := by
  intro d
  induction d with
  | zero =>
    intro j next hj hl h
    obtain ⟨k, hk⟩ := h
    rw [List.drop_of_length_le (by omega), List.filter_nil, List.append_nil] at hk
    refine ⟨k + 1, ?_⟩
    simp only [haymowref17_Cold.l2]
    rw [if_neg (by omega), wrap_in _ (by omega) (by omega)]
    exact hk
  | succ d ih =>
    intro j next hj hl h
    have hlt : j < out.length := by omega
    rw [drop_cons hlt, List.filter_cons] at h
    cases e : ahd (rd_T35 out j) x
    · rw [e] at h
      simp only [Bool.not_false, if_true] at h
      obtain ⟨k, hk⟩ := ih (j + 1) (next ++ [rd_T35 out j]) (by omega) (by simp; omega) (by simpa using h)
      refine ⟨k + 1, ?_⟩
      simp only [haymowref17_Cold.l2]
      rw [if_pos (by omega), if_pos (by omega), ref_ahead, e]
      simp only [Option.bind_some, Bool.false_eq_true, if_false]
      rw [if_pos (by omega), wrap_in _ (by omega) (by omega)]
      exact hk
    · rw [e] at h
      simp only [Bool.not_true, Bool.false_eq_true, if_false] at h
      obtain ⟨k, hk⟩ := ih (j + 1) next (by omega) (by omega) h
      refine ⟨k + 1, ?_⟩
      simp only [haymowref17_Cold.l2]
      rw [if_pos (by omega), if_pos (by omega), ref_ahead, e]
      simp only [Option.bind_some, if_true]
      rw [wrap_in _ (by omega) (by omega)]
      exact hk
theorem cold_l1 (l : List S35) (now age : Int) (out : List S35) (i : Nat) (x : S35) (R : List S35 × Bool) (hi : i < l.length) (hn : l.length ≤ 1000) (ho : out.length ≤ 1000) :
    ∀ (d j : Nat) (next : List S35), j + d = out.length → next.length ≤ j → (∃ k, haymowref17_Cold.l2 k l now age out i (next ++ (out.drop j).filter (fun y => ahd y x) ++ [x]) 0 x.f0 x.f1 x.f2 = some R) →
      ∃ k, haymowref17_Cold.l1 k l now age out i next j x.f0 x.f1 x.f2 = some R := by
  intro d
  induction d with
  | zero =>
    intro j next hj hl h
    obtain ⟨k, hk⟩ := h
    rw [List.drop_of_length_le (by omega), List.filter_nil, List.append_nil] at hk
    refine ⟨k + 1, ?_⟩
    simp only [haymowref17_Cold.l1]
    rw [if_neg (by omega), if_pos (by omega)]
    exact hk
  | succ d ih =>
    intro j next hj hl h
    have hlt : j < out.length := by omega
    rw [drop_cons hlt, List.filter_cons] at h
    cases e : ahd (rd_T35 out j) x
    · rw [e] at h
      simp only [Bool.false_eq_true, if_false] at h
      obtain ⟨k, hk⟩ := ih (j + 1) next (by omega) (by omega) h
      refine ⟨k + 1, ?_⟩
      simp only [haymowref17_Cold.l1]
      rw [if_pos (by omega), if_pos (by omega), ref_ahead, e]
      simp only [Option.bind_some, Bool.false_eq_true, if_false]
      rw [wrap_in _ (by omega) (by omega)]
      exact hk
    · rw [e] at h
      simp only [if_true] at h
      obtain ⟨k, hk⟩ := ih (j + 1) (next ++ [rd_T35 out j]) (by omega) (by simp; omega) (by simpa using h)
      refine ⟨k + 1, ?_⟩
      simp only [haymowref17_Cold.l1]
      rw [if_pos (by omega), if_pos (by omega), ref_ahead, e]
      simp only [Option.bind_some, if_true]
      rw [if_pos (by omega), wrap_in _ (by omega) (by omega)]
      exact hk
theorem insL_length (out : List S35) (x : S35) : (HeapPure.insL ahd out x).length = out.length + 1 := by
  have := (HeapPure.insL_perm (lt := ahd) out x).length_eq
  simpa using this
theorem cold_l0 (l : List S35) (now age : Int) (hn : l.length ≤ 1000) (hm : mayR l (fun _ => false) = true) (h1 : 0 ≤ now) (h2 : now ≤ 2147483647) (h3 : 0 ≤ age) (h4 : age ≤ 2147483647) :
    ∀ (d i : Nat) (out : List S35), i + d = l.length → out.length ≤ i → ∃ k, haymowref17_Cold.l0 k l now age out i = some (((l.drop i).filter (isCold now age)).foldl (HeapPure.insL ahd) out, true) := by
  intro d
  induction d with
  | zero =>
    intro i out hi ho
    refine ⟨1, ?_⟩
    simp only [haymowref17_Cold.l0]
    rw [if_neg (by omega), List.drop_of_length_le (by omega)]
    rfl
  | succ d ih =>
    intro i out hi ho
    have hlt : i < l.length := by omega
    have hb := mayR_at hm hlt
    rw [drop_cons hlt, List.filter_cons]
    have no : isCold now age (rd_T35 l i) = false → ∃ k, haymowref17_Cold.j2 k l now age out i true (rd_T35 l i).f0 (rd_T35 l i).f1 (rd_T35 l i).f2 = some (((l.drop (i + 1)).filter (isCold now age)).foldl (HeapPure.insL ahd) out, true) := by
      intro hc
      obtain ⟨k, hk⟩ := ih (i + 1) out (by omega) (by omega)
      exact ⟨k + 1, by simp only [haymowref17_Cold.j2]; rw [if_pos trivial, wrap_in _ (by omega) (by omega)]; exact hk⟩
    by_cases c1 : (rd_T35 l i).f2 < 1
    · have hc : isCold now age (rd_T35 l i) = false := by simp [isCold]; omega
      obtain ⟨k, hk⟩ := no hc
      rw [hc]
      simp only [Bool.false_eq_true, if_false]
      exact ⟨k + 1, by simp only [haymowref17_Cold.l0]; rw [if_pos (by omega), if_pos (by omega), if_pos c1]; exact hk⟩
    · by_cases c2 : (rd_T35 l i).f1 + age > now
      · have hc : isCold now age (rd_T35 l i) = false := by simp [isCold]; omega
        obtain ⟨k, hk⟩ := no hc
        rw [hc]
        simp only [Bool.false_eq_true, if_false]
        refine ⟨k + 1, ?_⟩
        simp only [haymowref17_Cold.l0]
        rw [if_pos (by omega), if_pos (by omega), if_neg c1, wrap_in _ (by omega) (by omega), decide_eq_true c2]
        exact hk
      · have hc : isCold now age (rd_T35 l i) = true := by simp [isCold]; omega
        rw [hc]
        simp only [if_true, List.foldl_cons]
        have h0 := ih (i + 1) (HeapPure.insL ahd out (rd_T35 l i)) (by omega) (by rw [insL_length]; omega)
        have hf := List.length_filter_le (fun y => ahd y (rd_T35 l i)) out
        have h5 := cold_l1 l now age out i (rd_T35 l i) _ hlt hn (by omega) out.length 0 [] (by omega) (by simp)
          (cold_l2 l now age out i (rd_T35 l i) (((l.drop (i + 1)).filter (isCold now age)).foldl (HeapPure.insL ahd) (HeapPure.insL ahd out (rd_T35 l i)), true) hlt hn (by omega) out.length 0 _ (by omega) (by simp; omega) (by simpa [HeapPure.insL] using h0))
        obtain ⟨k, hk⟩ := h5
        refine ⟨k + 2, ?_⟩
        simp only [haymowref17_Cold.l0]
        rw [if_pos (by omega), if_pos (by omega), if_neg c1, wrap_in _ (by omega) (by omega), decide_eq_false c2]
        simp only [haymowref17_Cold.j2]
        rw [if_neg (by simp)]
        exact hk
theorem ref_cold (l : List S35) (now age : Int) (hn : l.length ≤ 1000) : ∃ k, haymowref17_Cold.f k l now age = some (coldL l now age, coldB l now age) := by
  obtain ⟨k1, hk1⟩ := ref_may l hn
  have refused : coldB l now age = false → ∃ k, haymowref17_Cold.j0 k l now age true = some (coldL l now age, coldB l now age) := by
    intro h
    exact ⟨1, by simp only [haymowref17_Cold.j0]; rw [if_pos trivial, coldL, h]; rfl⟩
  have main : ∀ (g : Nat → Option (List S35 × Bool)), (∀ k, LeO (g k) (g (k + 1))) → (∃ k, g k = some (coldL l now age, coldB l now age)) → ∃ k, haymowref17_May.f k l = some (mayR l (fun _ => false)) ∧ g k = some (coldL l now age, coldB l now age) :=
    fun g hg h => together (fun k => haymowref17_May.mono l k) hg ⟨k1, hk1⟩ h
  cases hm : mayR l (fun _ => false)
  · have hb : coldB l now age = false := by rw [coldB, hm]; rfl
    obtain ⟨k, h1, h2⟩ := main _ (fun k => (haymowref17_Cold.mono_l k).1 _ _ _ _) (refused hb)
    refine ⟨k, ?_⟩
    rw [haymowref17_Cold.f, h1, hm]
    simpa using h2
  · have hj : ∀ b : Bool, (coldB l now age = !b) → ∃ k, haymowref17_May.f k l = some true ∧ haymowref17_Cold.j0 k l now age b = some (coldL l now age, coldB l now age) := by
      intro b hb
      rw [← hm]
      refine main _ (fun k => (haymowref17_Cold.mono_l k).1 _ _ _ _) ?_
      cases b with
      | true => exact refused hb
      | false =>
        have hb' := hb
        simp only [coldB, Bool.not_false, Bool.and_eq_true, inB, decide_eq_true_eq] at hb'
        obtain ⟨k, hk⟩ := cold_l0 l now age hn hm (by omega) (by omega) (by omega) (by omega) l.length 0 [] (by omega) (by simp)
        refine ⟨k + 1, ?_⟩
        simp only [haymowref17_Cold.j0]
        rw [if_neg (by simp), coldL, hb]
        simpa [HeapPure.sortL] using hk
    have hdef : coldB l now age = (inB now 2147483647 && inB age 2147483647) := by rw [coldB, hm, Bool.true_and]
    by_cases c1 : now < 0
    · obtain ⟨k, h1, h2⟩ := hj true (by rw [hdef]; simp [inB]; omega)
      exact ⟨k, by rw [haymowref17_Cold.f, h1]; simp only [Option.bind_some, if_true]; rw [if_pos c1]; exact h2⟩
    · by_cases c2 : now > 2147483647
      · obtain ⟨k, h1, h2⟩ := hj true (by rw [hdef]; simp [inB]; omega)
        exact ⟨k, by rw [haymowref17_Cold.f, h1]; simp only [Option.bind_some, if_true]; rw [if_neg c1, if_pos c2]; exact h2⟩
      · by_cases c3 : age < 0
        · obtain ⟨k, h1, h2⟩ := hj true (by rw [hdef]; simp [inB]; omega)
          exact ⟨k, by rw [haymowref17_Cold.f, h1]; simp only [Option.bind_some, if_true]; rw [if_neg c1, if_neg c2, if_pos c3]; exact h2⟩
        · obtain ⟨k, h1, h2⟩ := hj (decide (age > 2147483647)) (by rw [hdef, Bool.eq_iff_iff]; simp [inB]; omega)
          exact ⟨k, by rw [haymowref17_Cold.f, h1]; simp only [Option.bind_some, if_true]; rw [if_neg c1, if_neg c2, if_neg c3]; exact h2⟩
/-- ref.Cold, whatever comes in. -/
theorem refcold_calls (A0 : Option Addr) (c0 : Nat) (l0 : List S35) (now age : Int) (w : World) (hr0 : Kd.C k35 w A0 l0.length l0) (hc0 : l0.length ≤ c0) (hn : l0.length ≤ 1000) :
    Calls Try.prog 32 #[.slice A0 l0.length c0, .int .i64 now, .int .i64 age] w fun e w' => ∃ v, e = .returned (.tuple #[v, .bool (coldB l0 now age)]) ∧ Rd w' v (coldL l0 now age) ∧ Below w.heap.size w w' := by
  obtain ⟨k, hk⟩ := ref_cold l0 now age hn
  refine (haymowref17_Cold.calls k A0 c0 l0 now age _ _ w hr0 hc0 hk).mono ?_
  rintro e w' ⟨v, he, hv, hb⟩
  exact ⟨v, he, Rd.of_R hv, hb⟩
end Go.Proofs.Ytjpnbhcoagnpjaa
