/- Proved here: for every value of type uint8 and every slice of uint8, the law CacheLast of haymowlaw16, run to its end in the pinned program, returns true and leaves what was there as it was; no condition beyond the statement's own. -/
import Derived.Test.YtjpnbhcoagnpjaaCacheOpen
import Derived.Test.YtjpnbhcoagnpjaaCacheLastLaw
namespace Go.Proofs.Ytjpnbhcoagnpjaa
open Go.RowKit Go.Proofs.YtjpnbhcoagnpjaaW.PrintWords Go.Proofs.YtjpnbhcoagnpjaaW.PrintLast Go.Proofs.YtjpnbhcoagnpjaaW.PrintMore
open Go.ChangeShapes Go.WideShapes Go.ChangeAt
open Go.ChangeMaps (open_string shut_string)
open Go.Proofs.Ytjpnbhcoagnpjaa.PCacheTells
set_option linter.unusedVariables false
set_option linter.unusedSimpArgs false

namespace cacheLast
section
variable {H : Type} {enc : TypeId × Value → H} {w : World} {base : Nat} {sp : Nat → Bool} {held : Bool}
theorem byte_open {v : Value} {d : DataW H} {p : List MemPlace} {b0 : Nat} (hv : Value.okWide Try.prog w .any b0 5 v) (h : DataW.Trod enc Try.prog w base sp held 5 v d p) : ∃ g : Int, v = .int .u8 g ∧ 0 ≤ g ∧ g ≤ 255 := by
  obtain ⟨g, rfl, _, _, hw⟩ := open_int Try.underlying5 hv h
  simp [Lit.wf, IntKind.min, IntKind.max, IntKind.signed, IntKind.bits] at hw
  exact ⟨g, rfl, by omega, by omega⟩
theorem bytes_cells {fuel : Nat} {c0 : Value} {x : DataW H × List MemPlace} (h : DataW.trod enc Try.prog w base sp held fuel 58 [c0] = some x) :
    ∃ (A : Option Addr) (c : Nat) (l : List Int), c0 = .slice A l.length c ∧ l.length ≤ c ∧ ReadsInt w .u8 A l.length l ∧ ∀ x ∈ l, 0 ≤ x ∧ x ≤ 255 := by
  rcases Deep.open_slice1 Try.underlying58 (by kernel_rfl) h with ⟨h0, _⟩ | ⟨a, len, cap, m, n, V, D, Pl, hcs, _, hle, hcap, hm, _, hall⟩
  · simp only [List.cons.injEq, and_true] at h0
    subst h0
    exact ⟨none, 0, [], rfl, Nat.le_refl _, ⟨rfl, by simp, fun h => absurd h (by simp)⟩, by simp⟩
  · simp only [List.cons.injEq, and_true] at hcs
    subst hcs
    have hlm : len ≤ m := by rw [hm]; split <;> omega
    have hex : ∀ i, ∃ y : Int, (i < len → w.cell? (a.add i) = some (.int .u8 y)) ∧ 0 ≤ y ∧ y ≤ 255 := by
      intro i
      by_cases hi : i < len
      · obtain ⟨h1, h2⟩ := hall i (by omega)
        obtain ⟨y, hy, _, wy⟩ := DataW.trod_int Try.underlying5 h2
        simp only [List.cons.injEq, and_true] at hy
        simp [Lit.wf, IntKind.min, IntKind.max, IntKind.signed, IntKind.bits] at wy
        exact ⟨y, fun _ => by rw [h1, hy], by omega, by omega⟩
      · exact ⟨0, fun h => absurd h hi, by omega, by omega⟩
    obtain ⟨Y, hY⟩ := Classical.axiomOfChoice hex
    have hl : ((List.range len).map Y).length = len := by simp
    refine ⟨some a, cap, (List.range len).map Y, by rw [hl], by omega, ⟨rfl, by rw [hl]; unfold maxLen at hcap; omega, fun _ => ⟨a, rfl, fun j hj => ?_⟩⟩, ?_⟩
    · rw [hl] at hj
      rw [(hY j).1 hj]
      simp [List.getD_eq_getElem?_getD, hj]
    · intro x hx
      obtain ⟨j, _, rfl⟩ := List.mem_map.1 hx
      exact (hY j).2
theorem bytes_open {v : Value} {d : DataW H} {p : List MemPlace} {b0 : Nat} (hv : Value.okWide Try.prog w .any b0 58 v) (h : DataW.Trod enc Try.prog w base sp held 58 v d p) :
    ∃ (A : Option Addr) (c : Nat) (l : List Int), v = .slice A l.length c ∧ l.length ≤ c ∧ ReadsInt w .u8 A l.length l ∧ ∀ x ∈ l, 0 ≤ x ∧ x ≤ 255 := by
  obtain ⟨A, n, c, rfl⟩ := okWide_slice Try.underlying58 hv
  obtain ⟨fuel, hf⟩ := h
  exact bytes_cells hf
end
set_option maxRecDepth 100000 in
theorem lifted (os : Os) (started : os.Started) (H : Type) (enc : TypeId × Value → H) :
    ReturnsInHanded {} Try.checked os 7 .any (Rows.cacheLastSpec.pre6 enc Try.prog Try.f7 Rows.cacheLastRow.domain false) (Rows.cacheLastSpec.post enc Try.prog Try.f7 false true false false) := by
  refine returnsInHanded_of_change_sized (C := Try.checked) Ca.own started (by kernel_rfl) Try.func7
    (ChangeSpec.witness6 (enc := enc) (C := Try.checked) false ⟨#[], #[.int .u8 0, .slice none 0 0], []⟩ 8 (by kernel_rfl) (by kernel_rfl) (by kernel_rfl) (by kernel_rfl)) ?_
  intro W base args ds gs before hval0 hW hcnd hsz0 _
  have hval : ∀ (j : Nat) t v, Try.f7.params[j]? = some t → args[j]? = some v → Value.okWide Try.prog W .any base t v := hval0
  have hW' := hW
  obtain ⟨p, q, hA0, hV, rfl, hfz, hnd⟩ := hW
  have hA : DataW.TrodAll enc Try.prog W 0 (fun _ => true) true Try.f7.params.toList args.toList ds p := hA0
  rw [Try.params7] at hA hval
  obtain ⟨v0, vs0, d0, ds0, p0, q0, hargs, rfl, rfl, h0, r0⟩ := trodAll_cons hA
  obtain ⟨v1, vs1, d1, ds1, p1, q1, rfl, rfl, rfl, h1, r1⟩ := trodAll_cons r0
  obtain ⟨rfl, rfl, rfl⟩ := trodAll_nil r1
  obtain rfl : args = #[v0, v1] := by cases args; simp_all
  obtain ⟨rfl, rfl⟩ := trodVars_none hV
  have k0 := h0
  have k1 := h1
  have lt0 : ∀ x ∈ p0, x.block < W.heap.size := by obtain ⟨m, hm⟩ := k0; exact DataW.trod_lt m _ _ _ hm
  have lt1 : ∀ x ∈ p1, x.block < W.heap.size := by obtain ⟨m, hm⟩ := k1; exact DataW.trod_lt m _ _ _ hm
  obtain ⟨g, rfl, hg0, hg1⟩ := byte_open (hval 0 5 v0 rfl rfl) h0
  obtain ⟨A, c, l, rfl, hlc, hr, hwf⟩ := bytes_open (hval 1 58 v1 rfl rfl) h1
  clear hA0 hval0 hsz0
  refine (Ca.last_try g A c l W hg0 hg1 hr hlc hwf).mono fun e W' ⟨he, bel⟩ => ?_
  subst he
  exact ⟨_, rfl, _, _, _, [], _, [], hW', trodAll_mk1 (shut_bool Try.underlying4 _), trodAll_cons_mk (Below.trod Ca.laidOut (by kernel_rfl) (of_decide_eq_true (by kernel_rfl)) k0 bel lt0) (trodAll_cons_mk (Below.trod Ca.laidOut (by kernel_rfl) (of_decide_eq_true (by kernel_rfl)) k1 bel lt1) trodAll_mk0), rfl, bel.frame _, fun h => by cases h⟩
theorem over : Rows.cacheLastRow.holds Try.pinned (OpenSpec.ofChange Rows.cacheLastSpec) :=
  OpenClaim.holds_of_wide 7 Try.f7 rfl rfl rfl rfl rfl rfl rfl ⟨rfl, rfl, rfl, rfl, rfl⟩ rfl rfl rfl rfl rfl (by kernel_rfl) Try.func7 (by kernel_rfl)
    (of_decide_eq_true (by kernel_rfl)) (by unfold Func.isWrapper; first | (rw [if_pos (by decide +kernel)]; kernel_rfl) | (rw [if_neg (by decide +kernel)]; exact ⟨rfl, rfl⟩))
    (fun os started H enc _ => lifted os started H enc)
end cacheLast
theorem cacheLast_holds : Rows.CacheLastSaid := cacheLast.over
#print axioms cacheLast_holds
end Go.Proofs.Ytjpnbhcoagnpjaa
