/- heat.Colder; the order. -/
import Derived.Test.YtjpnbhcoagnpjaaHeatSame
import Derived.Deep.RegionHeld3
namespace Go.Proofs.Ytjpnbhcoagnpjaa
open Go.RowKit Go.Proofs.YtjpnbhcoagnpjaaW.PrintWords Go.Proofs.YtjpnbhcoagnpjaaW.PrintLast Go.Proofs.YtjpnbhcoagnpjaaW.PrintMore
open Go.Proofs.Ytjpnbhcoagnpjaa.PHeatPicks
set_option linter.unusedVariables false
set_option linter.unusedSimpArgs false

/-- What the two-valued assertion to a file answers. -/
def Asked (i : Value) (ok : Bool) (x : S35) : Prop := ∀ W : World, (Instr.typeAssert i 20 35 true).run Try.prog W = .ok (.tuple #[.agg #[.int .i64 x.f0, .int .i64 x.f1, .int .i64 x.f2], .bool ok]) W
theorem asked_file (x : S35) : Asked (.iface 35 (.agg #[.int .i64 x.f0, .int .i64 x.f1, .int .i64 x.f2])) true x := fun W => by kernel_rfl
theorem asked_int (v : Value) : Asked (.iface 3 v) false z35 := fun W => by kernel_rfl
theorem asked_string (v : Value) : Asked (.iface 9 v) false z35 := fun W => by kernel_rfl
theorem asked_ptr (v : Value) : Asked (.iface 40 v) false z35 := fun W => by kernel_rfl
theorem asked_slice (v : Value) : Asked (.iface 22 v) false z35 := fun W => by kernel_rfl
set_option maxHeartbeats 1000000 in
theorem colder_calls (i0 i1 : Value) (b0 b1 : Bool) (x y : S35) (w : World) (h0 : Asked i0 b0 x) (h1 : Asked i1 b1 y) :
    Calls Try.prog 15 #[i0, i1] w fun e w' => e = .returned (.bool (b0 && b1 && ahd x y)) ∧ Below w.heap.size w w' := by
  have k0 := h0
  have k1 := h1
  unfold Asked at k0 k1
  clear h0 h1
  have hB : ∀ o o' : Obj, Below w.heap.size w ((w.alloc o).alloc o') := fun o o' => ((Below.refl _ _).alloc (Nat.le_refl _) o).alloc (by simp) o'
  cases b0
  · go_enter Try.func15, Try.ntmps15
    go_wp2_with fail
    go_ret
    exact ⟨rfl, hB _ _⟩
  · cases b1
    · go_enter Try.func15, Try.ntmps15
      go_wp2_with fail
      go_ret
      exact ⟨rfl, hB _ _⟩
    · go_enter Try.func15, Try.ntmps15
      go_wp2_with fail
      refine (ahead_calls x y _).mono ?_
      rintro e w2 ⟨rfl, hb2⟩
      have HB2 := Aside0.mk hb2
      clear hb2
      go_wp2_with fail
      go_ret
      exact ⟨rfl, below_then (hB _ _) (by simp; omega) HB2.out⟩
theorem refahead_calls (a b : S35) (w : World) : Calls Try.prog 16 #[.agg #[.int .i64 a.f0, .int .i64 a.f1, .int .i64 a.f2], .agg #[.int .i64 b.f0, .int .i64 b.f1, .int .i64 b.f2]] w
    fun e w' => e = .returned (.bool (ahd a b)) ∧ Below w.heap.size w w' := haymowref17_Ahead.calls _ _ _ _ _ _ _ w (ref_ahead a b)

theorem colder_file (x y : S35) (w : World) : Calls Try.prog 15 #[.iface 35 (.agg #[.int .i64 x.f0, .int .i64 x.f1, .int .i64 x.f2]), .iface 35 (.agg #[.int .i64 y.f0, .int .i64 y.f1, .int .i64 y.f2])] w
    fun e w' => e = .returned (.bool (ahd x y)) ∧ Below w.heap.size w w' := (colder_calls _ _ true true x y w (asked_file x) (asked_file y)).mono fun e w' h => by simpa using h
theorem colder_none1 (i0 i1 : Value) (b0 : Bool) (x y : S35) (w : World) (h0 : Asked i0 b0 x) (h1 : Asked i1 false y) : Calls Try.prog 15 #[i0, i1] w fun e w' => e = .returned (.bool false) ∧ Below w.heap.size w w' :=
  (colder_calls i0 i1 b0 false x y w h0 h1).mono fun e w' h => by simpa using h
theorem colder_none0 (i0 i1 : Value) (b1 : Bool) (x y : S35) (w : World) (h0 : Asked i0 false x) (h1 : Asked i1 b1 y) : Calls Try.prog 15 #[i0, i1] w fun e w' => e = .returned (.bool false) ∧ Below w.heap.size w w' :=
  (colder_calls i0 i1 false b1 x y w h0 h1).mono fun e w' h => by simpa using h
theorem two_new (w : World) (o0 o1 o2 : Obj) : (((w.alloc o0).alloc o1).alloc o2).drew.heap[w.heap.size + 1]? = some o1 ∧ (((w.alloc o0).alloc o1).alloc o2).drew.heap[w.heap.size + 1 + 1]? = some o2 := by
  have h1 := blk_new (w.alloc o0) o1
  have h2 := blk_new ((w.alloc o0).alloc o1) o2
  rw [show (w.alloc o0).heap.size = w.heap.size + 1 by simp] at h1
  rw [show ((w.alloc o0).alloc o1).heap.size = w.heap.size + 1 + 1 by simp] at h2
  exact ⟨blk_drew (blk_alloc h1 o2), blk_drew h2⟩
set_option maxHeartbeats 4000000 in
set_option maxRecDepth 100000 in
theorem order_try (hawake : Hid (∀ w : World, Calls Try.prog 14 #[] w fun e w' => e = .returned (.bool true) ∧ Below w.heap.size w w')) (x y : S35) (n : Int) (s : ByteArray) (w : World) :
    Calls Try.prog 4 #[.agg #[.int .i64 x.f0, .int .i64 x.f1, .int .i64 x.f2, .int .i64 y.f0, .int .i64 y.f1, .int .i64 y.f2, .int .i64 n, .string s]] w fun e w' => e = .returned (.bool true) ∧ Below w.heap.size w w' := by
  go_enter Try.func4, Try.ntmps4
  go_wp2_with fail
  go_cut [3, 4, 5, 6] (fun v3 v4 v5 v6 wc => ∃ ga gb, v3 = .pointer (some ⟨ga, 0, none⟩) ∧ v4 = .pointer (some ⟨gb, 0, none⟩) ∧ v5 = .int .i64 n ∧ v6 = .string s ∧ Aside0 (wc.heap[ga]? = some (.cells #[.int .i64 x.f0, .int .i64 x.f1, .int .i64 x.f2] 35 (0, 0))) ∧ Aside0 (wc.heap[gb]? = some (.cells #[.int .i64 y.f0, .int .i64 y.f1, .int .i64 y.f2] 35 (0, 0))) ∧ Aside0 (Below w.heap.size w wc))
  case first =>
    go_region
    all_goals
      go_wp2
      go_meet
      case rel =>
        refine ⟨_, _, rfl, rfl, rfl, rfl, ⟨?_⟩, ⟨?_⟩, ⟨?_⟩⟩
        · first | exact (two_new _ _ _ _).1 | exact (two_new _ _ _ _).2
        · first | exact (two_new _ _ _ _).2 | exact (two_new _ _ _ _).1
        · exact below_drew (below_alloc (below_alloc (below_alloc (Below.refl _ _) _) _) _)
  case rest =>
    obtain ⟨ga, gb, rfl, rfl, rfl, rfl, HA, HG, HB⟩ := hcut
    have ca0 : wc.cell? ⟨ga, 0, none⟩ = some (.int .i64 x.f0) := blk_cell HA.out 0
    have ca1 : wc.cell? ⟨ga, 1, none⟩ = some (.int .i64 x.f1) := blk_cell HA.out 1
    have ca2 : wc.cell? ⟨ga, 2, none⟩ = some (.int .i64 x.f2) := blk_cell HA.out 2
    have cb0 : wc.cell? ⟨gb, 0, none⟩ = some (.int .i64 y.f0) := blk_cell HG.out 0
    have cb1 : wc.cell? ⟨gb, 1, none⟩ = some (.int .i64 y.f1) := blk_cell HG.out 1
    have cb2 : wc.cell? ⟨gb, 2, none⟩ = some (.int .i64 y.f2) := blk_cell HG.out 2
    obtain ⟨wa, rfl⟩ : ∃ wa : World, wa = wc := ⟨_, rfl⟩
    go_wp2_with fail
    go_cut [34] (fun v34 wc => v34 = .bool false ∧ wc.cell? ⟨ga, 0, none⟩ = some (.int .i64 x.f0) ∧ wc.cell? ⟨ga, 1, none⟩ = some (.int .i64 x.f1) ∧ wc.cell? ⟨ga, 2, none⟩ = some (.int .i64 x.f2) ∧ wc.cell? ⟨gb, 0, none⟩ = some (.int .i64 y.f0) ∧ wc.cell? ⟨gb, 1, none⟩ = some (.int .i64 y.f1) ∧ wc.cell? ⟨gb, 2, none⟩ = some (.int .i64 y.f2) ∧ Aside0 (Below w.heap.size w wc))
    case first =>
      have HBd : Aside0 (Below w.heap.size w wa.drew) := ⟨below_drew HB.out⟩
      go_region_held3 (fun w' => w'.cell? ⟨ga, 0, none⟩ = some (.int .i64 x.f0) ∧ w'.cell? ⟨ga, 1, none⟩ = some (.int .i64 x.f1) ∧ w'.cell? ⟨ga, 2, none⟩ = some (.int .i64 x.f2) ∧ w'.cell? ⟨gb, 0, none⟩ = some (.int .i64 y.f0) ∧ w'.cell? ⟨gb, 1, none⟩ = some (.int .i64 y.f1) ∧ w'.cell? ⟨gb, 2, none⟩ = some (.int .i64 y.f2) ∧ Aside0 (Below w.heap.size w w'))
        (first | go_keep)
        ((first | (go_at_call 15; refine (colder_file _ _ _).mono ?_; rintro e w5 ⟨rfl, hb5⟩; have q0 : w5.cell? ⟨ga, 0, none⟩ = some (.int .i64 x.f0) := pw_cell_below hb5 (by first | assumption | go_simp); have q1 : w5.cell? ⟨ga, 1, none⟩ = some (.int .i64 x.f1) := pw_cell_below hb5 (by first | assumption | go_simp); have q2 : w5.cell? ⟨ga, 2, none⟩ = some (.int .i64 x.f2) := pw_cell_below hb5 (by first | assumption | go_simp); have q3 : w5.cell? ⟨gb, 0, none⟩ = some (.int .i64 y.f0) := pw_cell_below hb5 (by first | assumption | go_simp); have q4 : w5.cell? ⟨gb, 1, none⟩ = some (.int .i64 y.f1) := pw_cell_below hb5 (by first | assumption | go_simp); have q5 : w5.cell? ⟨gb, 2, none⟩ = some (.int .i64 y.f2) := pw_cell_below hb5 (by first | assumption | go_simp); have qB : Aside0 (Below w.heap.size w w5) := ⟨below_then (Aside0.out (by assumption)) (Aside0.out (by assumption : Aside0 (Below w.heap.size w _))).size hb5⟩; clear hb5) | (go_at_call 16; refine (refahead_calls _ _ _).mono ?_; rintro e w5 ⟨rfl, hb5⟩; have q0 : w5.cell? ⟨ga, 0, none⟩ = some (.int .i64 x.f0) := pw_cell_below hb5 (by first | assumption | go_simp); have q1 : w5.cell? ⟨ga, 1, none⟩ = some (.int .i64 x.f1) := pw_cell_below hb5 (by first | assumption | go_simp); have q2 : w5.cell? ⟨ga, 2, none⟩ = some (.int .i64 x.f2) := pw_cell_below hb5 (by first | assumption | go_simp); have q3 : w5.cell? ⟨gb, 0, none⟩ = some (.int .i64 y.f0) := pw_cell_below hb5 (by first | assumption | go_simp); have q4 : w5.cell? ⟨gb, 1, none⟩ = some (.int .i64 y.f1) := pw_cell_below hb5 (by first | assumption | go_simp); have q5 : w5.cell? ⟨gb, 2, none⟩ = some (.int .i64 y.f2) := pw_cell_below hb5 (by first | assumption | go_simp); have qB : Aside0 (Below w.heap.size w w5) := ⟨below_then (Aside0.out (by assumption)) (Aside0.out (by assumption : Aside0 (Below w.heap.size w _))).size hb5⟩; clear hb5)))
      all_goals
        go_wp2
        go_meet
        case rel => exact ⟨rfl, by assumption⟩
    case rest =>
      obtain ⟨rfl, ca0, ca1, ca2, cb0, cb1, cb2, HB⟩ := hcut
      go_wp2_with fail
      refine (colder_none1 _ _ true x z35 _ (asked_file x) (asked_int _)).mono ?_
      rintro e w1 ⟨rfl, hb⟩
      replace ca0 := pw_cell_below hb ca0
      replace ca1 := pw_cell_below hb ca1
      replace ca2 := pw_cell_below hb ca2
      replace cb0 := pw_cell_below hb cb0
      replace cb1 := pw_cell_below hb cb1
      replace cb2 := pw_cell_below hb cb2
      replace HB := Aside0.mk (below_then HB.out HB.out.size hb)
      clear hb
      go_wp2_with fail
      refine (colder_none0 _ _ true z35 y _ (asked_string _) (asked_file y)).mono ?_
      rintro e w2 ⟨rfl, hb⟩
      replace ca0 := pw_cell_below hb ca0
      replace ca1 := pw_cell_below hb ca1
      replace ca2 := pw_cell_below hb ca2
      replace cb0 := pw_cell_below hb cb0
      replace cb1 := pw_cell_below hb cb1
      replace cb2 := pw_cell_below hb cb2
      replace HB := Aside0.mk (below_then HB.out HB.out.size hb)
      clear hb
      go_wp2_with fail
      refine (colder_none0 _ _ true z35 y _ (asked_ptr _) (asked_file y)).mono ?_
      rintro e w3 ⟨rfl, hb⟩
      replace ca0 := pw_cell_below hb ca0
      replace ca1 := pw_cell_below hb ca1
      replace ca2 := pw_cell_below hb ca2
      replace cb0 := pw_cell_below hb cb0
      replace cb1 := pw_cell_below hb cb1
      replace cb2 := pw_cell_below hb cb2
      replace HB := Aside0.mk (below_then HB.out HB.out.size hb)
      clear hb
      have d0 := pw_cell_below (below_alloc (Below.refl w3.heap.size w3) (.cells #[.int .i64 x.f0, .int .i64 x.f1, .int .i64 x.f2] 35)) cb0
      have d1 := pw_cell_below (below_alloc (Below.refl w3.heap.size w3) (.cells #[.int .i64 x.f0, .int .i64 x.f1, .int .i64 x.f2] 35)) cb1
      have d2 := pw_cell_below (below_alloc (Below.refl w3.heap.size w3) (.cells #[.int .i64 x.f0, .int .i64 x.f1, .int .i64 x.f2] 35)) cb2
      go_wp2_with fail
      refine (colder_none0 _ _ true z35 y _ (asked_slice _) (asked_file y)).mono ?_
      rintro e w4 ⟨rfl, hb⟩
      replace hb := below_then (below_alloc (Below.refl _ _) _) (by simp) hb
      replace ca0 := pw_cell_below hb ca0
      replace ca1 := pw_cell_below hb ca1
      replace ca2 := pw_cell_below hb ca2
      replace cb0 := pw_cell_below hb cb0
      replace cb1 := pw_cell_below hb cb1
      replace cb2 := pw_cell_below hb cb2
      replace HB := Aside0.mk (below_then HB.out HB.out.size hb)
      clear hb
      go_wp2_with fail
      refine (hawake.out _).mono ?_
      rintro e w5 ⟨rfl, hb⟩
      replace HB := Aside0.mk (below_then HB.out HB.out.size hb)
      clear hb
      go_wp2_with fail
      go_ret
      exact ⟨rfl, HB.out⟩
end Go.Proofs.Ytjpnbhcoagnpjaa
