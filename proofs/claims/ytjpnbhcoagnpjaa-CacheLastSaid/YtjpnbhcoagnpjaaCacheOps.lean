/- cache.New, slices.Clone at lines, cache.with. -/
import Derived.Test.YtjpnbhcoagnpjaaCacheRepeat
namespace Go.Proofs.Ytjpnbhcoagnpjaa
namespace Ca
open Go.RowKit Go.Proofs.YtjpnbhcoagnpjaaW.PrintWords Go.Proofs.YtjpnbhcoagnpjaaW.PrintLast Go.Proofs.YtjpnbhcoagnpjaaW.PrintMore
open Go.Proofs.Ytjpnbhcoagnpjaa.PCacheTells
set_option linter.unusedVariables false
set_option linter.unusedSimpArgs false

/-- A slice of lines that reads as a list. -/
structure Rl (w : World) (v : Value) (xs : List S56) : Prop where
  mk :: (out : ∃ A c, v = .slice A xs.length c ∧ xs.length ≤ c ∧ Kd.C k56 w A xs.length xs)
theorem Rl.below {w w1 : World} {v : Value} {xs : List S56} (h : Rl w v xs) (hb : Below w.heap.size w w1) : Rl w1 v xs := by
  obtain ⟨⟨A, c, rfl, hl, hc⟩⟩ := h
  exact ⟨⟨A, c, rfl, hl, Kd.C_below hc hb⟩⟩
theorem Rl.nil (w : World) : Rl w (.slice none 0 0) [] := ⟨⟨none, 0, rfl, Nat.le_refl _, ⟨rfl, by simp, fun h => absurd h (by simp)⟩⟩⟩
theorem Rl.of_own {w : World} {base : Nat} {v : Value} {xs : List S56} (h : w.ownsRow base 56 3 v xs.length (flat xs)) (hn : xs.length ≤ 1000000) : Rl w v xs := by
  rcases h.2 with ⟨rfl, h0⟩ | ⟨g, cap, cur, rfl, _, hg, hle, _, _, htake⟩
  · obtain rfl : xs = [] := List.eq_nil_of_length_eq_zero h0
    exact Rl.nil _
  · have := C_blk (W := w) (g := g) (t := 56) (L := cur.toList) (xs := xs) (by rw [Array.toArray_toList]; exact hg) htake hn
    exact ⟨⟨_, cap, rfl, hle, this⟩⟩
theorem flat_set (xs : List S56) (y : S56) : ∀ (i : Nat), (((flat xs).set (i * 3) (.int .i64 y.f0)).set (i * 3 + 1) (.int .i64 y.f1)).set (i * 3 + 2) (.int .i64 y.f2) = flat (xs.set i y) := by
  induction xs with
  | nil => intro i; rfl
  | cons x r ih =>
    intro i
    cases i with
    | zero => simp [flat, vals]
    | succ i =>
      have e : flat (x :: r) = vals x ++ flat r := rfl
      have e2 : flat ((x :: r).set (i + 1) y) = vals x ++ flat (r.set i y) := rfl
      rw [e, e2, ← ih i]
      simp only [vals, List.cons_append, List.nil_append, show (i + 1) * 3 = i * 3 + 3 by omega, show i * 3 + 3 + 1 = i * 3 + 1 + 3 by omega, show i * 3 + 3 + 2 = i * 3 + 2 + 3 by omega, List.set_cons_succ]
theorem cell?_setCell_some {w : World} {p q : Addr} {x v : Value} (h : w.cell? q = some v) : ∃ v', (w.setCell p x).cell? q = some v' := by
  by_cases e : p = q
  · subst e; exact ⟨x, World.cell?_setCell_same w p x h⟩
  · exact ⟨v, (World.cell?_setCell_other w p q x e).trans h⟩
theorem own_elem {w : World} {base : Nat} {v : Value} {xs : List S56} (h : w.ownsRow base 56 3 v xs.length (flat xs)) {i : Nat} (hi : i < xs.length) :
    ∃ g cap, v = .slice (some ⟨g, 0, none⟩) xs.length cap ∧ base ≤ g ∧ (∀ q, w.frozen? ⟨g, q, none⟩ = false) ∧ w.cell? ⟨g, i * 3, none⟩ = some (.int .i64 (rd_T56 xs i).f0) ∧ w.cell? ⟨g, i * 3 + 1, none⟩ = some (.int .i64 (rd_T56 xs i).f1) ∧ w.cell? ⟨g, i * 3 + 2, none⟩ = some (.int .i64 (rd_T56 xs i).f2) := by
  obtain ⟨g, cap, rfl, hbg, _⟩ := h.form (by omega)
  have hc : ∀ t u, t < 3 → (vals (xs.getD i z56))[t]? = some u → w.cell? ⟨g, i * 3 + t, none⟩ = some u := by
    intro t u ht hu
    have := h.cells (g := g) rfl (i * 3 + t) u (by rw [flat_get xs i t hi ht]; exact hu)
    rwa [add_plain] at this
  have hf : ∀ q, w.frozen? ⟨g, q, none⟩ = false := by
    rcases h.2 with ⟨h', _⟩ | ⟨g', cap', cur, h', _, hh, _⟩
    · cases h'
    · have : g = g' := by injection h' with h'; injection h' with h'; injection h' with h'
      subst this
      intro q
      simp [World.frozen?, hh]
  exact ⟨g, cap, rfl, hbg, hf, hc 0 _ (by omega) rfl, hc 1 _ (by omega) rfl, hc 2 _ (by omega) rfl⟩
theorem own_set {w : World} {base g cap n : Nat} {xs : List S56} (h : w.ownsRow base 56 3 (.slice (some ⟨g, 0, none⟩) n cap) n (flat xs)) (i : Nat) (y : S56) :
    (((w.setCell ⟨g, i * 3, none⟩ (.int .i64 y.f0)).setCell ⟨g, i * 3 + 1, none⟩ (.int .i64 y.f1)).setCell ⟨g, i * 3 + 2, none⟩ (.int .i64 y.f2)).ownsRow base 56 3 (.slice (some ⟨g, 0, none⟩) n cap) n (flat (xs.set i y)) ∧
    w.grownBy (((w.setCell ⟨g, i * 3, none⟩ (.int .i64 y.f0)).setCell ⟨g, i * 3 + 1, none⟩ (.int .i64 y.f1)).setCell ⟨g, i * 3 + 2, none⟩ (.int .i64 y.f2)) (some g) := by
  obtain ⟨h1, g1⟩ := h.stored (i * 3) (.int .i64 y.f0)
  obtain ⟨h2, g2⟩ := h1.stored (i * 3 + 1) (.int .i64 y.f1)
  obtain ⟨h3, g3⟩ := h2.stored (i * 3 + 2) (.int .i64 y.f2)
  rw [flat_set] at h3
  exact ⟨h3, (g1.trans g2).trans g3⟩

/-- cache.New. -/
def newP (n : Int) : List S56 × Int := if n < 1 ∨ 256 < n then ([], 1) else (List.replicate n.toNat noneL, 0)
set_option maxHeartbeats 1000000 in
theorem new_calls (n : Int) (w : World) : Calls Try.prog 25 #[.int .i64 n] w fun e w' => ∃ v, e = .returned (.tuple #[v, .int .i64 (newP n).2]) ∧ Rl w' v (newP n).1 ∧ Below w.heap.size w w' := by
  by_cases h1 : n < 1
  · have hp : newP n = ([], 1) := by rw [newP, if_pos (.inl h1)]
    have d1 : decide (n < 1) = true := decide_eq_true h1
    rw [hp]
    clear hp h1
    go_enter Try.func25, Try.ntmps25
    go_wp2_with fail
    go_ret2
    exact ⟨_, rfl, Rl.nil _, Below.refl _ _⟩
  · by_cases h2 : 256 < n
    · have hp : newP n = ([], 1) := by rw [newP, if_pos (.inr h2)]
      have d1 : decide (n < 1) = false := decide_eq_false h1
      have d2 : decide (256 < n) = true := decide_eq_true h2
      rw [hp]
      clear hp h1 h2
      go_enter Try.func25, Try.ntmps25
      go_wp2_with fail
      go_ret2
      exact ⟨_, rfl, Rl.nil _, Below.refl _ _⟩
    · have hp : newP n = (List.replicate n.toNat noneL, 0) := by rw [newP, if_neg (by omega)]
      rw [hp]
      clear hp
      obtain ⟨m, rfl⟩ : ∃ m : Nat, n = (m : Int) := ⟨n.toNat, by omega⟩
      rw [Int.toNat_natCast]
      have hm1 : 1 ≤ m := by omega
      have hm2 : m ≤ 256 := by omega
      have d1 : decide ((m : Int) < 1) = false := decide_eq_false h1
      have d2 : decide (256 < (m : Int)) = false := decide_eq_false h2
      clear h1 h2
      go_enter Try.func25, Try.ntmps25
      go_wp2_with fail
      refine (none_calls _).mono ?_
      rintro e w1 ⟨rfl, hb⟩
      have HB := Aside0.mk hb
      clear hb
      go_wp2_with fail
      have HB2 := Aside0.mk (below_alloc HB.out (.cells #[.int .i64 (-1), .int .i64 0, .int .i64 0] 56))
      have hC : Kd.C k56 (w1.alloc (.cells #[.int .i64 (-1), .int .i64 0, .int .i64 0] 56)) (some ⟨w1.heap.size, 0, none⟩) 1 [noneL] :=
        C_blk (L := vals noneL) (xs := [noneL]) (blk_new w1 _) rfl (by simp)
      refine (repeat_calls noneL _ 1 m _ hC (Nat.le_refl _) hm1 hm2).mono ?_
      rintro e w2 ⟨A, c, rfl, hc, hr, hb⟩
      have HB3 := Aside0.mk (below_then HB2.out HB2.out.size hb)
      have HR := Aside0.mk hr
      clear hb hr hC HB HB2
      go_wp2_with fail
      go_ret2
      exact ⟨_, rfl, ⟨⟨A, c, by rw [List.length_replicate]; rfl, by rw [List.length_replicate]; exact hc, by rw [List.length_replicate]; exact HR.out⟩⟩, HB3.out⟩

theorem info56 : (Try.prog.info? 56).map (fun i => (i.zero, i.size, i.bytes)) = some (some (.agg #[.int .i64 0, .int .i64 0, .int .i64 0]), 3, 24) := by kernel_rfl
set_option maxHeartbeats 1000000 in
/-- slices.Clone of lines. -/
theorem clone_calls (A0 : Option Addr) (c0 : Nat) (l : List S56) (w : World) (hr : Kd.C k56 w A0 l.length l) (h1 : 1 ≤ l.length) (hn : l.length ≤ 1000000) :
    Calls Try.prog 50 #[.slice A0 l.length c0] w fun e w' => ∃ v, e = .returned v ∧ w'.ownsRow w.heap.size 56 3 v l.length (flat l) ∧ Below w.heap.size w w' := by
  obtain ⟨ad, rfl, hcl⟩ := C_cells hr (by omega)
  have q44 : ∀ (w : World) (a : Option Addr) (n c n' c' : Nat), (binOp .eql 44 (.slice a n c) (.slice none n' c')).run Try.prog w = .ok (.bool a.isNone) w := fun w a n c n' c' => Lib.run_eql_slice_nil w _ _ a n c n' c' Try.underlying44
  obtain ⟨i0, hi, hzz⟩ := Option.map_eq_some_iff.1 info56
  simp only [Prod.mk.injEq] at hzz
  obtain ⟨hz0, hz1, hz2⟩ := hzz
  have HZ0 := Aside0.mk hz0
  have HZ1 := Aside0.mk hz1
  have HZ2 := Aside0.mk hz2
  have HI := Aside0.mk hi
  have HCL : Aside0 (∀ j v, (flat l)[j]? = some v → (w.alloc (.cells #[] 56)).cell? (ad.add j) = some v) := ⟨fun j v h => pw_cell_below (below_alloc (Below.refl _ _) _) (hcl j v h)⟩
  clear hcl hr hz0 hz1 hz2 hi
  go_enter Try.func50, Try.ntmps50
  go_wp2_with (at_builtin; refine wpList_append_own _ rfl (.tmp 5) (.tmp 6) 44 rfl w.heap.size 56 i0 (.agg #[.int .i64 0, .int .i64 0, .int .i64 0]) 3 24 Try.underlying44 HI.out HZ0.out HZ1.out HZ2.out rfl (by decide) _ 0 [] rfl (World.ownsRow_made w #[] 0 (Nat.le_refl _) (Nat.zero_le _) rfl) ad l.length c0 (flat l) rfl (flat_length _) HCL.out (flat_one _) (by unfold maxLen; omega) (by omega) (by simp) ?_; intro v w1 hown hg hnil; have HO := Aside0.mk hown; have HG := Aside0.mk hg; clear hown hg hnil)
  go_ret
  have ho := HO.out
  rw [Nat.zero_add, List.nil_append] at ho
  refine ⟨v, rfl, ho, ?_⟩
  exact ((Below.refl _ _).alloc (Nat.le_refl _) _).grown HG.out (by simp) (by intro k hk; have h2 : some w.heap.size = some k := hk; injection h2 with h2; omega)
set_option maxHeartbeats 2000000 in
/-- cache.with. -/
theorem with_calls (A0 : Option Addr) (c0 : Nat) (l : List S56) (i : Nat) (x : S56) (w : World) (hr : Kd.C k56 w A0 l.length l) (hi : i < l.length) (hn : l.length ≤ 1000000) :
    Calls Try.prog 45 #[.slice A0 l.length c0, .int .i64 i, .agg #[.int .i64 x.f0, .int .i64 x.f1, .int .i64 x.f2]] w fun e w' => ∃ v, e = .returned v ∧ Rl w' v (l.set i x) ∧ Below w.heap.size w w' := by
  have HR := Aside0.mk hr
  clear hr
  go_enter Try.func45, Try.ntmps45
  go_wp2_with fail
  have hnew := blk_new w (.cells #[.int .i64 x.f0, .int .i64 x.f1, .int .i64 x.f2] 56)
  have HB := Aside0.mk (below_alloc (Below.refl w.heap.size w) (.cells #[.int .i64 x.f0, .int .i64 x.f1, .int .i64 x.f2] 56))
  have HSZ : Aside0 (w.heap.size < (w.alloc (.cells #[.int .i64 x.f0, .int .i64 x.f1, .int .i64 x.f2] 56)).heap.size) := ⟨by simp⟩
  generalize w.alloc (.cells #[.int .i64 x.f0, .int .i64 x.f1, .int .i64 x.f2] 56) = wa at *
  have HNew := Aside0.mk hnew
  clear hnew
  refine (clone_calls A0 c0 l wa (Kd.C_below HR.out HB.out) (by omega) hn).mono ?_
  rintro e w1 ⟨v, rfl, ho, hb⟩
  have hnew := blk_below HNew.out hb
  have HB1 := Aside0.mk (below_then HB.out HB.out.size hb)
  obtain ⟨g, cap, rfl, hbg, hf, y0, y1, y2⟩ := own_elem ho hi
  have HO := Aside0.mk ho
  have HBG : Aside0 (w.heap.size < g) := ⟨Nat.lt_of_lt_of_le HSZ.out hbg⟩
  clear ho hb hbg HB HSZ HNew
  have q0 : w1.cell? ⟨w.heap.size, 0, none⟩ = some (.int .i64 x.f0) := blk_cell hnew 0
  have q1 : w1.cell? ⟨w.heap.size, 1, none⟩ = some (.int .i64 x.f1) := blk_cell hnew 1
  have q2 : w1.cell? ⟨w.heap.size, 2, none⟩ = some (.int .i64 x.f2) := blk_cell hnew 2
  clear hnew
  generalize rd_T56 l i = Y at *
  obtain ⟨a1, ha1⟩ := cell?_setCell_some (p := ⟨g, i * 3, none⟩) (x := .int .i64 x.f0) y1
  obtain ⟨a2, ha2⟩ := cell?_setCell_some (p := ⟨g, i * 3, none⟩) (x := .int .i64 x.f0) y2
  obtain ⟨b2, hb2⟩ := cell?_setCell_some (p := ⟨g, i * 3 + 1, none⟩) (x := .int .i64 x.f1) ha2
  clear ha2
  have hi0 : (0 : Int) ≤ (i : Int) := by omega
  have hi1 : (i : Int) < (l.length : Int) := by omega
  go_wp2_with fail
  go_ret
  obtain ⟨r1, g1⟩ := own_set HO.out i x
  refine ⟨_, rfl, ?_, ?_⟩
  · have r2 : (((w1.setCell ⟨g, i * 3, none⟩ (.int .i64 x.f0)).setCell ⟨g, i * 3 + 1, none⟩ (.int .i64 x.f1)).setCell ⟨g, i * 3 + 2, none⟩ (.int .i64 x.f2)).ownsRow wa.heap.size 56 3 (.slice (some ⟨g, 0, none⟩) l.length cap) (l.set i x).length (flat (l.set i x)) := by
      rw [List.length_set]; exact r1
    exact Rl.of_own r2 (by rw [List.length_set]; exact hn)
  · exact HB1.out.grown g1 HB1.out.size (by intro k hk; injection hk with hk; have := HBG.out; omega)
end Ca
end Go.Proofs.Ytjpnbhcoagnpjaa
