/- Proved here: for every value of type Pick, the law HeatPicks of haymowlaw17, run to its end in the pinned program, returns true and leaves what was there as it was; no condition beyond the statement's own. -/
import Derived.Test.YtjpnbhcoagnpjaaHeatPickLaw
import Derived.Test.YtjpnbhcoagnpjaaHeatRow
namespace Go.Proofs.Ytjpnbhcoagnpjaa
open Go.RowKit Go.Proofs.YtjpnbhcoagnpjaaW.PrintWords Go.Proofs.YtjpnbhcoagnpjaaW.PrintLast Go.Proofs.YtjpnbhcoagnpjaaW.PrintMore
open Go.ChangeShapes Go.WideShapes Go.ChangeAt
open Go.ChangeMaps (open_string shut_string)
open Go.Proofs.Ytjpnbhcoagnpjaa.PHeatPicks
set_option linter.unusedVariables false
set_option linter.unusedSimpArgs false

section
variable {H : Type} {enc : TypeId × Value → H} {w : World} {base : Nat} {sp : Nat → Bool} {held : Bool}
/-- A slice of files that came in: it reads a list. -/
theorem heats_open {fuel : Nat} {c0 : Value} {x : DataW H × List MemPlace} (h : DataW.trod enc Try.prog w base sp held fuel 22 [c0] = some x) :
    ∃ (A : Option Addr) (c : Nat) (l : List S35), c0 = .slice A l.length c ∧ l.length ≤ c ∧ Kd.C k35 w A l.length l := by
  rcases Deep.open_slice Try.underlying22 h with ⟨h0, _⟩ | ⟨a, len, cap, m, n, D, Pl, hcs, _, hle, hcap, hm, _, hall⟩
  · simp only [List.cons.injEq, and_true] at h0
    subst h0
    exact ⟨none, 0, [], rfl, Nat.le_refl _, rfl, by simp, fun h => absurd h (by simp)⟩
  · simp only [List.cons.injEq, and_true] at hcs
    subst hcs
    have hC : Try.prog.cellsOf 35 = 3 := by kernel_rfl
    have hlm : len ≤ m := by rw [hm]; split <;> omega
    have hex : ∀ i, ∃ y : S35, i < len → w.cells? base (a.add (i * 3)) 3 = some [.int .i64 y.f0, .int .i64 y.f1, .int .i64 y.f2] := by
      intro i
      by_cases hi : i < len
      · obtain ⟨cs', hcs', ht⟩ := hall i (by omega)
        rw [hC] at hcs'
        have hlen := (World.cells?_some hcs').2.1
        match cs', hlen, ht, hcs' with
        | [c0, c1, c2], _, ht, hcs' =>
          obtain ⟨a0, a1, a2, rfl, rfl, rfl, _⟩ := heat_cells ht
          exact ⟨⟨a0, a1, a2⟩, fun _ => hcs'⟩
      · exact ⟨z35, fun h => absurd h hi⟩
    obtain ⟨Y, hY⟩ := Classical.axiomOfChoice hex
    have hl : ((List.range len).map Y).length = len := by simp
    refine ⟨some a, cap, (List.range len).map Y, by rw [hl], by omega, ⟨rfl, by rw [hl]; unfold maxLen at hcap; omega, fun _ => ⟨a, rfl, fun j p hp => ?_⟩⟩⟩
    obtain ⟨hj, rfl⟩ := List.getElem?_eq_some_iff.1 hp
    rw [hl] at hj
    simp only [List.getElem_map, List.getElem_range]
    refine ⟨_, rfl, k35_mk w (Y j), fun i u hu => ?_⟩
    have hb := (World.cells?_some (hY j hj)).2.2
    have hi : i < 3 := by
      have := (List.getElem?_eq_some_iff.1 hu).1
      simpa using this
    have := hb i hi
    rw [Go.Addr.add_add] at this
    exact this.trans hu
theorem array4 {α : Type} {cs : Array α} (h : cs.size = 4) : ∃ c0 c1 c2 c3, cs = #[c0, c1, c2, c3] := by
  obtain ⟨l⟩ := cs
  match l, h with
  | [c0, c1, c2, c3], _ => exact ⟨c0, c1, c2, c3, rfl⟩
theorem pick_open {v : Value} {d : DataW H} {p : List MemPlace} {b0 : Nat} (hv : Value.okWide Try.prog w .any b0 24 v) (h : DataW.Trod enc Try.prog w base sp held 24 v d p) :
    ∃ (A : Option Addr) (c : Nat) (l : List S35) (n a m : Int), v = .agg #[.slice A l.length c, .int .i64 n, .int .i64 a, .int .i64 m] ∧ l.length ≤ c ∧ Kd.C k35 w A l.length l ∧ (Lit.int .i64 n).wf = true ∧ (Lit.int .i64 a).wf = true ∧ (Lit.int .i64 m).wf = true := by
  obtain ⟨cs, rfl, hsz⟩ := okWide_struct Try.underlying24 hv
  have hC : Try.prog.cellsOf 24 = 4 := by kernel_rfl
  have hC22 : Try.prog.cellsOf 22 = 1 := by kernel_rfl
  have hC3 : Try.prog.cellsOf 3 = 1 := by kernel_rfl
  obtain ⟨c0, c1, c2, c3, rfl⟩ := array4 (hsz.trans hC)
  obtain ⟨fuel, hf⟩ := h
  obtain ⟨y0, y1, y2, y3, n, _, _, h0, h1, h2, h3⟩ := Joins.trod_struct4 Try.underlying24 hf
  simp only [Value.cells, hC22, hC3, List.drop_zero, List.drop_succ_cons, List.take_succ_cons, List.take_zero] at h0 h1 h2 h3
  obtain ⟨A, c, l, rfl, hlc, hr⟩ := heats_open h0
  obtain ⟨b1, hb1, _, w1⟩ := DataW.trod_int Try.underlying3 h1
  obtain ⟨b2, hb2, _, w2⟩ := DataW.trod_int Try.underlying3 h2
  obtain ⟨b3, hb3, _, w3⟩ := DataW.trod_int Try.underlying3 h3
  simp only [List.cons.injEq, and_true] at hb1 hb2 hb3
  subst hb1 hb2 hb3
  exact ⟨A, c, l, b1, b2, b3, rfl, hlc, hr, w1, w2, w3⟩
end
namespace heatPicks
set_option maxRecDepth 100000 in
theorem lifted (os : Os) (started : os.Started) (H : Type) (enc : TypeId × Value → H) :
    ReturnsInHanded {} Try.checked os 3 .any (Rows.heatPicksSpec.pre6 enc Try.prog Try.f3 Rows.heatPicksRow.domain false) (Rows.heatPicksSpec.post enc Try.prog Try.f3 false true false false) := by
  refine returnsInHanded_of_change_sized (C := Try.checked) own started (by kernel_rfl) Try.func3
    (ChangeSpec.witness6 (enc := enc) (C := Try.checked) false ⟨#[], #[.agg #[.slice none 0 0, .int .i64 0, .int .i64 0, .int .i64 0]], []⟩ 8 (by kernel_rfl) (by kernel_rfl) (by kernel_rfl) (by kernel_rfl)) ?_
  intro W base args ds gs before hval0 hW hcnd hsz0 _
  have hval : ∀ (j : Nat) t v, Try.f3.params[j]? = some t → args[j]? = some v → Value.okWide Try.prog W .any base t v := hval0
  have hW' := hW
  obtain ⟨p, q, hA0, hV, rfl, hfz, hnd⟩ := hW
  have hA : DataW.TrodAll enc Try.prog W 0 (fun _ => true) true Try.f3.params.toList args.toList ds p := hA0
  rw [Try.params3] at hA hval
  obtain ⟨v0, vs0, d0, ds0, p0, q0, hargs, rfl, rfl, h0, r0⟩ := trodAll_cons hA
  obtain ⟨rfl, rfl, rfl⟩ := trodAll_nil r0
  obtain rfl : args = #[v0] := by cases args; simp_all
  obtain ⟨rfl, rfl⟩ := trodVars_none hV
  have k0 := h0
  have lt0 : ∀ x ∈ p0, x.block < W.heap.size := by obtain ⟨m, hm⟩ := k0; exact DataW.trod_lt m _ _ _ hm
  obtain ⟨A, c, l, n, a, m, rfl, hlc, hr, _, _, wm⟩ := pick_open (hval 0 24 v0 rfl rfl) h0
  clear hA0 hval0 hsz0
  refine (picks_try A c l n a m W hr hlc (bounds_i64 wm).2).mono fun e W' ⟨he, bel⟩ => ?_
  subst he
  exact ⟨_, rfl, _, _, _, [], _, [], hW', trodAll_mk1 (shut_bool Try.underlying4 _), trodAll_cons_mk (Below.trod laidOut (by kernel_rfl) (of_decide_eq_true (by kernel_rfl)) k0 bel lt0) trodAll_mk0, rfl, bel.frame _, fun h => by cases h⟩
theorem over : Rows.heatPicksRow.holds Try.pinned (OpenSpec.ofChange Rows.heatPicksSpec) :=
  OpenClaim.holds_of_wide 3 Try.f3 rfl rfl rfl rfl rfl rfl rfl ⟨rfl, rfl, rfl, rfl, rfl⟩ rfl rfl rfl rfl rfl (by kernel_rfl) Try.func3 (by kernel_rfl)
    (of_decide_eq_true (by kernel_rfl)) (by unfold Func.isWrapper; first | (rw [if_pos (by decide +kernel)]; kernel_rfl) | (rw [if_neg (by decide +kernel)]; exact ⟨rfl, rfl⟩))
    (fun os started H enc _ => lifted os started H enc)
end heatPicks
theorem heatPicks_holds : Rows.HeatPicksSaid := heatPicks.over
#print axioms heatPicks_holds
end Go.Proofs.Ytjpnbhcoagnpjaa
