/- The heap's pieces: which file is ahead; Less, Swap, Push, Pop of the queue. -/
import Derived.Test.YtjpnbhcoagnpjaaHeatMay
import Derived.Test.YtjpnbhcoagnpjaaHeapPure
import Derived.StillTailTactics
import Derived.WalkLawsBesides
import Derived.WalkSpells
namespace Go.Proofs.Ytjpnbhcoagnpjaa
open Go.RowKit Go.Proofs.YtjpnbhcoagnpjaaW.PrintWords Go.Proofs.YtjpnbhcoagnpjaaW.PrintLast Go.Proofs.YtjpnbhcoagnpjaaW.PrintMore
open Go.Proofs.Ytjpnbhcoagnpjaa.PHeatPicks
set_option linter.unusedVariables false
set_option linter.unusedSimpArgs false

def ahd (a b : S35) : Bool := if a.f1 = b.f1 then (if a.f2 = b.f2 then decide (a.f0 < b.f0) else decide (b.f2 < a.f2)) else decide (a.f1 < b.f1)
def vals (x : S35) : List Value := [.int .i64 x.f0, .int .i64 x.f1, .int .i64 x.f2]
def flat (xs : List S35) : List Value := xs.flatMap vals
theorem flat_length (xs : List S35) : (flat xs).length = xs.length * 3 := by
  induction xs with
  | nil => rfl
  | cons x r ih => simp only [flat, List.flatMap_cons, List.length_append] at ih ⊢; rw [ih]; simp [vals]; omega
theorem flat_app (xs ys : List S35) : flat (xs ++ ys) = flat xs ++ flat ys := by simp [flat]
theorem flat_get (xs : List S35) : ∀ (i t : Nat), i < xs.length → t < 3 → (flat xs)[i * 3 + t]? = (vals (xs.getD i z35))[t]? := by
  induction xs with
  | nil => intro i t h; simp at h
  | cons x r ih =>
    intro i t h ht
    have e : flat (x :: r) = vals x ++ flat r := rfl
    rw [e]
    cases i with
    | zero =>
      rw [Nat.zero_mul, Nat.zero_add, List.getElem?_append_left (by simpa [vals] using ht)]
      rfl
    | succ i =>
      rw [List.getElem?_append_right (by simp [vals]; omega)]
      have := ih i t (by simpa using h) ht
      simp only [vals, List.length_cons, List.length_nil] at this ⊢
      rw [show (i + 1) * 3 + t - (0 + 1 + 1 + 1) = i * 3 + t by omega, this]
      rfl
theorem flat_set (xs : List S35) (y : S35) : ∀ (i : Nat), (((flat xs).set (i * 3) (.int .i64 y.f0)).set (i * 3 + 1) (.int .i64 y.f1)).set (i * 3 + 2) (.int .i64 y.f2) = flat (xs.set i y) := by
  induction xs with
  | nil => intro i; rfl
  | cons x r ih =>
    intro i
    cases i with
    | zero => simp [flat, vals]
    | succ i =>
      have e : flat (x :: r) = vals x ++ flat r := rfl
      have e2 : flat ((x :: r).set (i + 1) y) = vals x ++ flat (r.set i y) := rfl
      rw [e, e2, ← ih i]
      simp only [vals, List.cons_append, List.nil_append, show (i + 1) * 3 = i * 3 + 3 by omega, show i * 3 + 3 + 1 = i * 3 + 1 + 3 by omega, show i * 3 + 3 + 2 = i * 3 + 2 + 3 by omega, List.set_cons_succ]
theorem flat_take (xs : List S35) (n : Nat) : (flat xs).take (n * 3) = flat (xs.take n) := by
  induction xs generalizing n with
  | nil => simp [flat]
  | cons x r ih =>
    cases n with
    | zero => simp [flat]
    | succ n =>
      have e : flat (x :: r) = vals x ++ flat r := rfl
      have e2 : flat ((x :: r).take (n + 1)) = vals x ++ flat (r.take n) := rfl
      rw [e, e2, ← ih n, show (n + 1) * 3 = n * 3 + 3 by omega]
      simp [vals]

theorem ahead_calls (a b : S35) (w : World) : Calls Try.prog 33 #[.agg #[.int .i64 a.f0, .int .i64 a.f1, .int .i64 a.f2], .agg #[.int .i64 b.f0, .int .i64 b.f1, .int .i64 b.f2]] w
    fun e w' => e = .returned (.bool (ahd a b)) ∧ Below w.heap.size w w' := by
  have hB : ∀ o o' : Obj, Below w.heap.size w ((w.alloc o).alloc o') := fun o o' => ((Below.refl _ _).alloc (Nat.le_refl _) o).alloc (by simp) o'
  unfold ahd
  by_cases h1 : a.f1 = b.f1
  · have h1b : (a.f1 == b.f1) = true := by simpa using h1
    rw [if_pos h1]
    clear h1
    by_cases h2 : a.f2 = b.f2
    · have h2b : (a.f2 == b.f2) = true := by simpa using h2
      rw [if_pos h2]
      clear h2
      go_enter Try.func33, Try.ntmps33
      go_wp2_with fail
      all_goals go_ret
      all_goals exact ⟨rfl, hB _ _⟩
    · have h2b : (a.f2 == b.f2) = false := by simpa using h2
      rw [if_neg h2]
      clear h2
      go_enter Try.func33, Try.ntmps33
      go_wp2_with fail
      all_goals go_ret
      all_goals exact ⟨rfl, hB _ _⟩
  · have h1b : (a.f1 == b.f1) = false := by simpa using h1
    rw [if_neg h1]
    clear h1
    go_enter Try.func33, Try.ntmps33
    go_wp2_with fail
    all_goals go_ret
    all_goals exact ⟨rfl, hB _ _⟩
theorem cell?_setCell_some {w : World} {p q : Addr} {x v : Value} (h : w.cell? q = some v) : ∃ v', (w.setCell p x).cell? q = some v' := by
  by_cases e : p = q
  · subst e; exact ⟨x, World.cell?_setCell_same w p x h⟩
  · exact ⟨v, (World.cell?_setCell_other w p q x e).trans h⟩
theorem own_elem {w : World} {base : Nat} {v : Value} {xs : List S35} (h : w.ownsRow base 35 3 v xs.length (flat xs)) {i : Nat} (hi : i < xs.length) :
    ∃ g cap, v = .slice (some ⟨g, 0, none⟩) xs.length cap ∧ w.cell? ⟨g, i * 3, none⟩ = some (.int .i64 (xs.getD i z35).f0) ∧ w.cell? ⟨g, i * 3 + 1, none⟩ = some (.int .i64 (xs.getD i z35).f1) ∧ w.cell? ⟨g, i * 3 + 2, none⟩ = some (.int .i64 (xs.getD i z35).f2) := by
  obtain ⟨g, cap, rfl, _, _⟩ := h.form (by omega)
  have hc : ∀ t u, t < 3 → (vals (xs.getD i z35))[t]? = some u → w.cell? ⟨g, i * 3 + t, none⟩ = some u := by
    intro t u ht hu
    have := h.cells (g := g) rfl (i * 3 + t) u (by rw [flat_get xs i t hi ht]; exact hu)
    rwa [add_plain] at this
  exact ⟨g, cap, rfl, hc 0 _ (by omega) rfl, hc 1 _ (by omega) rfl, hc 2 _ (by omega) rfl⟩
theorem grown_drew {w w1 : World} {row : Option Nat} (h : w.grownBy w1 row) : w.grownBy w1.drew row := ⟨h.os, h.tape, h.output, h.size, h.block⟩
theorem own_drew {w : World} {base n size : Nat} {e : TypeId} {v : Value} {xs : List Value} (h : w.ownsRow base e size v n xs) : w.drew.ownsRow base e size v n xs := h
theorem own_set {w : World} {base g cap n : Nat} {xs : List S35} (h : w.ownsRow base 35 3 (.slice (some ⟨g, 0, none⟩) n cap) n (flat xs)) (i : Nat) (y : S35) :
    (((w.setCell ⟨g, i * 3, none⟩ (.int .i64 y.f0)).setCell ⟨g, i * 3 + 1, none⟩ (.int .i64 y.f1)).setCell ⟨g, i * 3 + 2, none⟩ (.int .i64 y.f2)).ownsRow base 35 3 (.slice (some ⟨g, 0, none⟩) n cap) n (flat (xs.set i y)) ∧
    w.grownBy (((w.setCell ⟨g, i * 3, none⟩ (.int .i64 y.f0)).setCell ⟨g, i * 3 + 1, none⟩ (.int .i64 y.f1)).setCell ⟨g, i * 3 + 2, none⟩ (.int .i64 y.f2)) (some g) := by
  obtain ⟨h1, g1⟩ := h.stored (i * 3) (.int .i64 y.f0)
  obtain ⟨h2, g2⟩ := h1.stored (i * 3 + 1) (.int .i64 y.f1)
  obtain ⟨h3, g3⟩ := h2.stored (i * 3 + 2) (.int .i64 y.f2)
  rw [flat_set] at h3
  exact ⟨h3, (g1.trans g2).trans g3⟩
set_option maxHeartbeats 1000000 in
theorem less_calls (base : Nat) (v : Value) (xs : List S35) (i j : Nat) (w : World) (h : w.ownsRow base 35 3 v xs.length (flat xs)) (hi : i < xs.length) (hj : j < xs.length) (hn : xs.length ≤ 1000000) :
    Calls Try.prog 69 #[v, .int .i64 i, .int .i64 j] w fun e w' => e = .returned (.bool (ahd (xs.getD i z35) (xs.getD j z35))) ∧ Below w.heap.size w w' := by
  obtain ⟨g, cap, rfl, hx0, hx1, hx2⟩ := own_elem h hi
  obtain ⟨g', cap', e, hy0, hy1, hy2⟩ := own_elem h hj
  cases e
  generalize xs.getD i z35 = x at *
  generalize xs.getD j z35 = y at *
  have H := Aside0.mk h
  clear h
  have hb : Below w.heap.size w w.drew := below_drew (Below.refl _ _)
  have HB := Aside0.mk hb
  clear hb
  go_enter Try.func69, Try.ntmps69
  go_wp2_with fail
  go_still_tail 8, (by kernel_rfl)
  change wpList _ _ _ _ _ w.drew
  generalize w.drew = w2 at *
  go_wp2_with fail
  refine (ahead_calls x y w2).mono ?_
  rintro e w3 ⟨rfl, hb3⟩
  have HB3 := Aside0.mk hb3
  clear hb3
  go_wp2_with fail
  go_ret
  exact ⟨rfl, below_then HB.out HB.out.size HB3.out⟩
set_option maxHeartbeats 2000000 in
theorem swap_calls (base : Nat) (v : Value) (xs : List S35) (i j : Nat) (w : World) (h : w.ownsRow base 35 3 v xs.length (flat xs)) (hi : i < xs.length) (hj : j < xs.length) (hn : xs.length ≤ 1000000) :
    Calls Try.prog 72 #[v, .int .i64 i, .int .i64 j] w fun e w' => e = .returned (.tuple #[]) ∧ w'.ownsRow base 35 3 v xs.length (flat (HeapPure.swp z35 xs i j)) ∧ w.grownBy w' v.ownBlock := by
  obtain ⟨g, cap, rfl, hx0, hx1, hx2⟩ := own_elem h hi
  obtain ⟨g', cap', e, hy0, hy1, hy2⟩ := own_elem h hj
  cases e
  have hf : ∀ q, w.frozen? ⟨g, q, none⟩ = false := by
    rcases h.2 with ⟨h', _⟩ | ⟨g', cap', cur, h', _, hh, _⟩
    · cases h'
    · have : g = g' := by injection h' with h'; injection h' with h'; injection h' with h'
      subst this
      intro q
      simp [World.frozen?, hh]
  generalize hX : xs.getD i z35 = x at *
  generalize hY : xs.getD j z35 = y at *
  have HX := Aside0.mk hX
  have HY := Aside0.mk hY
  have H := Aside0.mk h
  clear h hX hY
  obtain ⟨a0, ha0⟩ := cell?_setCell_some (p := ⟨g, i * 3, none⟩) (x := .int .i64 y.f0) hy0
  obtain ⟨a1, ha1⟩ := cell?_setCell_some (p := ⟨g, i * 3, none⟩) (x := .int .i64 y.f0) hy1
  obtain ⟨a2, ha2⟩ := cell?_setCell_some (p := ⟨g, i * 3, none⟩) (x := .int .i64 y.f0) hy2
  obtain ⟨b1, hb1⟩ := cell?_setCell_some (p := ⟨g, i * 3 + 1, none⟩) (x := .int .i64 y.f1) ha1
  obtain ⟨b2, hb2⟩ := cell?_setCell_some (p := ⟨g, i * 3 + 1, none⟩) (x := .int .i64 y.f1) ha2
  obtain ⟨c2, hc2⟩ := cell?_setCell_some (p := ⟨g, i * 3 + 2, none⟩) (x := .int .i64 y.f2) hb2
  clear ha1 ha2 hb2
  go_enter Try.func72, Try.ntmps72
  go_wp2_with fail
  go_region
  go_end0
  obtain ⟨r1, g1⟩ := own_set H.out i y
  obtain ⟨r2, g2⟩ := own_set r1 j x
  have r3 := own_drew r2
  have g3 := grown_drew (World.grownBy.trans g1 g2)
  refine ⟨rfl, ?_, g3⟩
  rw [HeapPure.swp, HX.out, HY.out]
  exact r3
end Go.Proofs.Ytjpnbhcoagnpjaa
