/- The chapter's examples: awake answers true. -/
import Derived.Test.YtjpnbhcoagnpjaaHeatOrder
import Derived.Deep.MidRow
namespace Go.Proofs.Ytjpnbhcoagnpjaa
open Go.RowKit Go.Proofs.YtjpnbhcoagnpjaaW.PrintWords Go.Proofs.YtjpnbhcoagnpjaaW.PrintLast Go.Proofs.YtjpnbhcoagnpjaaW.PrintMore
open Go.Proofs.Ytjpnbhcoagnpjaa.PHeatPicks
set_option linter.unusedVariables false
set_option linter.unusedSimpArgs false

def awL : List S35 := [⟨2, 5, 9⟩, ⟨3, 4, 1⟩]
theorem aw_cold : coldL awL 10 5 = [⟨3, 4, 1⟩, ⟨2, 5, 9⟩] := by rfl
theorem aw_coldB : coldB awL 10 5 = true := by rfl
theorem aw_pick : pickL awL 10 5 4 = [⟨3, 4, 1⟩, ⟨2, 5, 3⟩] := by rfl
theorem aw_pickB : pickB awL 10 5 4 = true := by rfl
/-- Two files in a row of their own. -/
abbrev two (x y : S35) : Obj := .cells #[.int .i64 x.f0, .int .i64 x.f1, .int .i64 x.f2, .int .i64 y.f0, .int .i64 y.f1, .int .i64 y.f2] 35
theorem Rd_blk {w : World} {g : Nat} {x y : S35} (h : w.heap[g]? = some (two x y)) : Rd w (.slice (some ⟨g, 0, none⟩) 2 2) [x, y] :=
  Rd.of_own (base := 0) (v := .slice (some ⟨g, 0, none⟩) 2 2) (xs := [x, y]) ⟨rfl, .inr ⟨g, 2, _, rfl, Nat.zero_le _, h, Nat.le_refl _, by unfold maxLen; omega, rfl, rfl⟩⟩
/-- What stays while the test is worked out. -/
structure AwS (w W : World) (g : Nat) (v2 v4 : Value) : Prop where
  blk : W.heap[g]? = some (two ⟨2, 5, 9⟩ ⟨3, 4, 1⟩)
  r2 : Rd W v2 [⟨3, 4, 1⟩, ⟨2, 5, 9⟩]
  r4 : Rd W v4 [⟨3, 4, 1⟩, ⟨2, 5, 3⟩]
  old : Below w.heap.size w W
theorem AwS.below {w W W1 : World} {g : Nat} {v2 v4 : Value} (h : AwS w W g v2 v4) (hb : Below W.heap.size W W1) : AwS w W1 g v2 v4 :=
  ⟨blk_below h.blk hb, h.r2.below hb, h.r4.below hb, below_then h.old h.old.size hb⟩
theorem AwS.alloc {w W : World} {g : Nat} {v2 v4 : Value} (h : AwS w W g v2 v4) (o : Obj) : AwS w (W.alloc o) g v2 v4 := h.below (below_alloc (Below.refl _ _) _)
theorem AwS.allocD {w W : World} {g : Nat} {v2 v4 : Value} (h : AwS w W.drew g v2 v4) (o : Obj) : AwS w (W.alloc o).drew g v2 v4 := AwS.alloc (W := W.drew) h o
theorem AwS.cells {w W : World} {g : Nat} {v2 v4 : Value} (h : AwS w W g v2 v4) : W.cell? ⟨g, 0, none⟩ = some (.int .i64 2) ∧ W.cell? ⟨g, 1, none⟩ = some (.int .i64 5) ∧ W.cell? ⟨g, 2, none⟩ = some (.int .i64 9) ∧
    W.cell? ⟨g, 3, none⟩ = some (.int .i64 3) ∧ W.cell? ⟨g, 4, none⟩ = some (.int .i64 4) ∧ W.cell? ⟨g, 5, none⟩ = some (.int .i64 1) ∧ Aside0 (AwS w W g v2 v4) :=
  ⟨blk_cell h.blk 0, blk_cell h.blk 1, blk_cell h.blk 2, blk_cell h.blk 3, blk_cell h.blk 4, blk_cell h.blk 5, ⟨h⟩⟩

theorem blk_newD (w : World) (o : Obj) : (w.alloc o).drew.heap[w.heap.size]? = some o := blk_drew (blk_new w o)
theorem ahd_ex : ahd ⟨3, 4, 1⟩ ⟨2, 5, 9⟩ = true := by decide
theorem colder_ex (w : World) : Calls Try.prog 15 #[.iface 35 (.agg #[.int .i64 3, .int .i64 4, .int .i64 1]), .iface 35 (.agg #[.int .i64 2, .int .i64 5, .int .i64 9])] w fun e w' => e = .returned (.bool true) ∧ Below w.heap.size w w' := by
  have h := colder_file ⟨3, 4, 1⟩ ⟨2, 5, 9⟩ w
  rw [ahd_ex] at h
  exact h
theorem colder_12 (w : World) : Calls Try.prog 15 #[.iface 3 (.int .i64 1), .iface 3 (.int .i64 2)] w fun e w' => e = .returned (.bool false) ∧ Below w.heap.size w w' := colder_none0 _ _ false z35 z35 w (asked_int _) (asked_int _)
set_option maxHeartbeats 8000000 in
set_option maxRecDepth 100000 in
theorem awake_calls (w : World) : Calls Try.prog 14 #[] w fun e w' => e = .returned (.bool true) ∧ Below w.heap.size w w' := by
  go_enter Try.func14, Try.ntmps14
  go_wp2_with fail
  have hb0 := blk_new w (two ⟨2, 5, 9⟩ ⟨3, 4, 1⟩)
  have hcold := cold_calls (some ⟨w.heap.size, 0, none⟩) 2 awL 10 5 (w.alloc (two ⟨2, 5, 9⟩ ⟨3, 4, 1⟩)) (by obtain ⟨⟨A, c, e, _, h⟩⟩ := Rd_blk hb0; cases e; exact h) (Nat.le_refl _) (by decide)
  unfold ColdPost2 at hcold
  rw [aw_cold, aw_coldB, show errN true = 0 from rfl] at hcold
  have HC := Aside0.mk hcold
  have HB0 := Aside0.mk hb0
  clear hcold hb0
  refine HC.out.mono ?_
  rintro e w1 ⟨v2, rfl, h2, hb1⟩
  have HB1 := Aside0.mk (blk_below HB0.out hb1)
  have HO1 := Aside0.mk (below_then (below_alloc (Below.refl w.heap.size w) (two ⟨2, 5, 9⟩ ⟨3, 4, 1⟩)) (by simp) hb1)
  have HR2 := Aside0.mk h2
  clear h2 hb1 HC HB0
  have hpick := pick_calls (some ⟨w.heap.size, 0, none⟩) 2 awL 10 5 4 w1 (by obtain ⟨⟨A, c, e, _, h⟩⟩ := Rd_blk HB1.out; cases e; exact h) (Nat.le_refl _) (by decide) (by decide)
  unfold PickPost at hpick
  rw [aw_pick, aw_pickB, show errN true = 0 from rfl] at hpick
  have HC := Aside0.mk hpick
  clear hpick
  go_wp2_with fail
  refine HC.out.mono ?_
  rintro e w2 ⟨v4, rfl, h4, hb2⟩
  have HS : Aside0 (AwS w w2 w.heap.size v2 v4) := ⟨⟨blk_below HB1.out hb2, HR2.out.below hb2, h4, below_then HO1.out HO1.out.size hb2⟩⟩
  clear h4 hb2 HC HB1 HO1 HR2
  obtain ⟨c0, c1, c2, c3, c4, c5, _⟩ := HS.out.cells
  go_wp2_with fail
  have HSd : Aside0 (AwS w w2.drew w.heap.size v2 v4) := ⟨HS.out.below (below_drew (Below.refl _ _))⟩
  go_region_held3 (fun w' => w'.cell? ⟨w.heap.size, 0, none⟩ = some (.int .i64 2) ∧ w'.cell? ⟨w.heap.size, 1, none⟩ = some (.int .i64 5) ∧ w'.cell? ⟨w.heap.size, 2, none⟩ = some (.int .i64 9) ∧ w'.cell? ⟨w.heap.size, 3, none⟩ = some (.int .i64 3) ∧ w'.cell? ⟨w.heap.size, 4, none⟩ = some (.int .i64 4) ∧ w'.cell? ⟨w.heap.size, 5, none⟩ = some (.int .i64 1) ∧ Aside0 (AwS w w' w.heap.size v2 v4))
    ((go_split_ands; first | (refine AwS.cells ?_; refine Aside0.out ?_; assumption) | (refine AwS.cells (AwS.allocD ?_ _); refine Aside0.out ?_; assumption) | (refine AwS.cells (AwS.alloc ?_ _); refine Aside0.out ?_; assumption) | go_keep))
    ((first | (go_at_call_of 13 (v2); go_split_ands; refine (same_calls _ _ [⟨3, 4, 1⟩, ⟨2, 5, 9⟩] [⟨3, 4, 1⟩, ⟨2, 5, 9⟩] _ ?_ (Rd_blk (blk_newD _ _)) (by decide)).mono ?_; (refine AwS.r2 (w := w) (g := w.heap.size) (v4 := v4) ?_; refine Aside0.out ?_; assumption); rintro e5 w5 ⟨rfl, hb5⟩; have hA : Aside0 (AwS w w5 w.heap.size v2 v4) := (by (refine ⟨AwS.below ?_ hb5.below⟩; refine Aside0.out ?_; assumption)); clear hb5) | (go_at_call_of 13 (v4); go_split_ands; refine (same_calls _ _ [⟨3, 4, 1⟩, ⟨2, 5, 3⟩] [⟨3, 4, 1⟩, ⟨2, 5, 3⟩] _ ?_ (Rd_blk (blk_new _ _)) (by decide)).mono ?_; (refine AwS.r4 (w := w) (g := w.heap.size) (v2 := v2) ?_; refine Aside0.out ?_; assumption); rintro e5 w5 ⟨rfl, hb5⟩; have hA : Aside0 (AwS w w5 w.heap.size v2 v4) := (by (refine ⟨AwS.below ?_ hb5.below⟩; refine Aside0.out ?_; assumption)); clear hb5) | (go_at_call 15; go_split_ands; (with_reducible refine (colder_12 _).mono ?_); rintro e5 w5 ⟨rfl, hb5⟩; have hA : Aside0 (AwS w w5 w.heap.size v2 v4) := (by (refine ⟨AwS.below ?_ hb5⟩; refine Aside0.out ?_; assumption)); clear hb5) | (go_at_call 15; go_split_ands; (with_reducible refine (colder_ex _).mono ?_); rintro e5 w5 ⟨rfl, hb5⟩; have hA : Aside0 (AwS w w5 w.heap.size v2 v4) := (by (refine ⟨AwS.below ?_ hb5⟩; refine Aside0.out ?_; assumption)); clear hb5)))
  all_goals
    go_split_ands
    go_wp2_with fail
    go_ret
    refine ⟨rfl, AwS.old (g := w.heap.size) (v2 := v2) (v4 := v4) ?_⟩
    refine Aside0.out ?_
    assumption
end Go.Proofs.Ytjpnbhcoagnpjaa
