/- How the cache laws' arguments read. -/
import Derived.Test.YtjpnbhcoagnpjaaCacheSame
import Derived.Test.YtjpnbhcoagnpjaaRows
import Derived.WalkKit
import Derived.ProofKit
import Derived.OpenShut
import Derived.ShutString
import Derived.ChangeOld
import Derived.Below
import Derived.SizedLaws
import Derived.Lib.SmallJoins
namespace Go.Proofs.Ytjpnbhcoagnpjaa
namespace Ca
open Go.RowKit Go.Proofs.YtjpnbhcoagnpjaaW.PrintWords Go.Proofs.YtjpnbhcoagnpjaaW.PrintLast Go.Proofs.YtjpnbhcoagnpjaaW.PrintMore
open Go.ChangeShapes Go.WideShapes Go.ChangeAt
open Go.ChangeMaps (open_string shut_string)
open Go.Proofs.Ytjpnbhcoagnpjaa.PCacheTells
set_option linter.unusedVariables false
set_option linter.unusedSimpArgs false

theorem own : ownKnob Try.prog.godebug = none := by kernel_rfl
theorem laidOut : laidOutB Try.prog = true := by kernel_rfl
section
variable {H : Type} {enc : TypeId × Value → H} {w : World} {base : Nat} {sp : Nat → Bool} {held : Bool}
theorem line_cells {fuel : Nat} {c0 c1 c2 : Value} {x : DataW H × List MemPlace} (h : DataW.trod enc Try.prog w base sp held fuel 56 [c0, c1, c2] = some x) :
    ∃ a b c : Int, c0 = .int .i64 a ∧ c1 = .int .i64 b ∧ c2 = .int .i64 c ∧ (Lit.int .i64 a).wf = true := by
  obtain ⟨y0, y1, y2, n, _, _, h0, h1, h2⟩ := Deep.trod_struct3 Try.underlying56 h
  have hc : Try.prog.cellsOf 3 = 1 := by kernel_rfl
  simp only [hc, List.drop_zero, List.drop_succ_cons, List.take_succ_cons, List.take_zero] at h0 h1 h2
  obtain ⟨a, ha, _, wa⟩ := DataW.trod_int Try.underlying3 h0
  obtain ⟨b, hb, _, wb⟩ := DataW.trod_int Try.underlying3 h1
  obtain ⟨c, hcc, _, wc⟩ := DataW.trod_int Try.underlying3 h2
  simp only [List.cons.injEq, and_true] at ha hb hcc
  exact ⟨a, b, c, ha, hb, hcc, wa⟩
/-- A slice of lines that came in: it reads a list. -/
theorem lines_cells {fuel : Nat} {c0 : Value} {x : DataW H × List MemPlace} (h : DataW.trod enc Try.prog w base sp held fuel 44 [c0] = some x) :
    ∃ (A : Option Addr) (c : Nat) (l : List S56), c0 = .slice A l.length c ∧ l.length ≤ c ∧ Kd.C k56 w A l.length l ∧ ∀ x ∈ l, (Lit.int .i64 x.f0).wf = true := by
  rcases Deep.open_slice Try.underlying44 h with ⟨h0, _⟩ | ⟨a, len, cap, m, n, D, Pl, hcs, _, hle, hcap, hm, _, hall⟩
  · simp only [List.cons.injEq, and_true] at h0
    subst h0
    exact ⟨none, 0, [], rfl, Nat.le_refl _, ⟨rfl, by simp, fun h => absurd h (by simp)⟩, by simp⟩
  · simp only [List.cons.injEq, and_true] at hcs
    subst hcs
    have hC : Try.prog.cellsOf 56 = 3 := by kernel_rfl
    have hlm : len ≤ m := by rw [hm]; split <;> omega
    have hex : ∀ i, ∃ y : S56, (i < len → w.cells? base (a.add (i * 3)) 3 = some [.int .i64 y.f0, .int .i64 y.f1, .int .i64 y.f2]) ∧ (Lit.int .i64 y.f0).wf = true := by
      intro i
      by_cases hi : i < len
      · obtain ⟨cs', hcs', ht⟩ := hall i (by omega)
        rw [hC] at hcs'
        have hlen := (World.cells?_some hcs').2.1
        match cs', hlen, ht, hcs' with
        | [c0, c1, c2], _, ht, hcs' =>
          obtain ⟨a0, a1, a2, rfl, rfl, rfl, wa⟩ := line_cells ht
          exact ⟨⟨a0, a1, a2⟩, fun _ => hcs', wa⟩
      · exact ⟨z56, fun h => absurd h hi, rfl⟩
    obtain ⟨Y, hY⟩ := Classical.axiomOfChoice hex
    have hl : ((List.range len).map Y).length = len := by simp
    refine ⟨some a, cap, (List.range len).map Y, by rw [hl], by omega, ⟨rfl, by rw [hl]; unfold maxLen at hcap; omega, fun _ => ⟨a, rfl, fun j p hp => ?_⟩⟩, ?_⟩
    · obtain ⟨hj, rfl⟩ := List.getElem?_eq_some_iff.1 hp
      rw [hl] at hj
      simp only [List.getElem_map, List.getElem_range]
      refine ⟨_, rfl, k56_mk w (Y j), fun i u hu => ?_⟩
      have hb := (World.cells?_some ((hY j).1 hj)).2.2
      have hi : i < 3 := by
        have := (List.getElem?_eq_some_iff.1 hu).1
        simpa using this
      have := hb i hi
      rw [Go.Addr.add_add] at this
      exact this.trans hu
    · intro x hx
      obtain ⟨j, _, rfl⟩ := List.mem_map.1 hx
      exact (hY j).2
theorem lines_open {v : Value} {d : DataW H} {p : List MemPlace} {b0 : Nat} (hv : Value.okWide Try.prog w .any b0 44 v) (h : DataW.Trod enc Try.prog w base sp held 44 v d p) :
    ∃ (A : Option Addr) (c : Nat) (l : List S56), v = .slice A l.length c ∧ l.length ≤ c ∧ Kd.C k56 w A l.length l ∧ ∀ x ∈ l, (Lit.int .i64 x.f0).wf = true := by
  obtain ⟨A, n, c, rfl⟩ := okWide_slice Try.underlying44 hv
  obtain ⟨fuel, hf⟩ := h
  exact lines_cells hf
theorem num_open {v : Value} {d : DataW H} {p : List MemPlace} {b0 : Nat} (hv : Value.okWide Try.prog w .any b0 3 v) (h : DataW.Trod enc Try.prog w base sp held 3 v d p) : ∃ n : Int, v = .int .i64 n ∧ (Lit.int .i64 n).wf = true := by
  obtain ⟨g, rfl, _, _, hw⟩ := open_int Try.underlying3 hv h
  exact ⟨g, rfl, hw⟩
end
end Ca
end Go.Proofs.Ytjpnbhcoagnpjaa
