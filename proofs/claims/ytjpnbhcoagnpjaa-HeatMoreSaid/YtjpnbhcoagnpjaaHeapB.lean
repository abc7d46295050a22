/- Push and Pop of the queue. -/
import Derived.Test.YtjpnbhcoagnpjaaHeapA
import Derived.Deep.RegionLaw
import Derived.Maps.AppendAt
namespace Go.Proofs.Ytjpnbhcoagnpjaa
open Go.RowKit Go.Proofs.YtjpnbhcoagnpjaaW.PrintWords Go.Proofs.YtjpnbhcoagnpjaaW.PrintLast Go.Proofs.YtjpnbhcoagnpjaaW.PrintMore
open Go.Proofs.Ytjpnbhcoagnpjaa.PHeatPicks
set_option linter.unusedVariables false
set_option linter.unusedSimpArgs false

/-- append to a row of the call's own, as one step of a region. -/
theorem step_append_own {P : Program} {ops : Array Oper} {o : Oper} {a : Act} {w : World} {K : Act → World → Prop} {Q : Exit → Act → World → Prop} {E : Prop}
    (hg : o.guard = none) (s x : Operand) (t : TypeId) (hop : o.op = Op.call { callee := Callee.builtin Builtin.append, args := #[s, x], argTypes := #[t, t] })
    (base : Nat) (e : TypeId) (z : Value) (size bytes : Nat) (h1 : P.underlying t = some (.slice e)) (hinfo : (P.info? e).map (fun i => (i.zero, i.size, i.bytes)) = some (some z, size, bytes)) (h6 : z.cells.size = size) (h7 : 0 < size)
    (v : Value) (n : Nat) (olds : List Value) (hs : a.eval s = v) (hown : w.ownsRow base e size v n olds)
    (ad : Addr) (m c : Nat) (news : List Value) (hx : a.eval x = .slice (some ad) m c) (hn : news.length = m * size) (hc : ∀ j u, news[j]? = some u → w.cell? (ad.add j) = some u) (h1c : ∀ u ∈ news, u.oneCell' = true)
    (b1 : n + m ≤ maxLen) (b2 : (n + m) * bytes ≤ 140737488355328) (hbase : base ≤ w.heap.size)
    (hK : ∀ v' w', w'.ownsRow base e size v' (n + m) (olds ++ news) → w.grownBy w' v.ownBlock → (v'.ownBlock = v.ownBlock ∨ v'.ownBlock = some w.heap.size) → K (a.put o.dst v') w') :
    if Region.wanted o (yielded ops a.tmps) = true then Oper.wp P o a w K Q else E := by
  have hw : Region.wanted o (yielded ops a.tmps) = true := by simp [Region.wanted, hg]
  rw [if_pos hw]
  obtain ⟨i0, hi, hzz⟩ := Option.map_eq_some_iff.1 hinfo
  simp only [Prod.mk.injEq] at hzz
  obtain ⟨hz0, hz1, hz2⟩ := hzz
  obtain ⟨v', w', hrun, r1, r2, _, r4⟩ := run_append_own_at (P := P) (w := w) base t o.type e i0 z size bytes h1 hi hz0 hz1 hz2 h6 h7 v n olds hown ad m c news hn hc h1c b1 b2 hbase
  unfold Oper.wp
  simp [execOp, hop, resolve, invoke, builtin, hs, hx, hrun, Result.andThen]
  exact hK v' w' r1 r2 r4
theorem vals_one (x : S35) : ∀ u ∈ vals x, u.oneCell' = true := by
  intro u hu
  simp only [vals, List.mem_cons, List.not_mem_nil, or_false] at hu
  rcases hu with rfl | rfl | rfl <;> rfl
theorem own_ne {w : World} {base n qa : Nat} {v u : Value} {xs : List Value} (h : w.ownsRow base 35 3 v n xs) (hq : w.heap[qa]? = some (.cells #[u] 70 (0, 0))) : some qa ≠ v.ownBlock := by
  intro e
  obtain ⟨cells, hc⟩ := own_typed h qa e.symm
  rw [hq] at hc
  injection hc with hc
  injection hc with _ hc
  cases hc
/-- What stays: blocks of an elder world. -/
structure Fr where
  w0 : World
  prot : Nat → Prop
  lt : ∀ i, prot i → i < w0.heap.size
structure Fr.Ok (F : Fr) (w : World) : Prop where
  os : w.os = F.w0.os
  tape : w.tape = F.w0.tape
  output : w.output = F.w0.output
  size : F.w0.heap.size ≤ w.heap.size
  block : ∀ i, F.prot i → w.heap[i]? = F.w0.heap[i]?
theorem Fr.Ok.grown {F : Fr} {w w1 : World} {row : Option Nat} (h : F.Ok w) (hg : w.grownBy w1 row) (hr : ∀ k, row = some k → ¬ F.prot k) : F.Ok w1 :=
  ⟨hg.os.trans h.os, hg.tape.trans h.tape, hg.output.trans h.output, Nat.le_trans h.size hg.size, fun i hi => (hg.block i (Nat.lt_of_lt_of_le (F.lt i hi) h.size) (fun e => hr i e.symm hi)).trans (h.block i hi)⟩
theorem Fr.Ok.below {F : Fr} {w w1 : World} (h : F.Ok w) (hb : Below w.heap.size w w1) : F.Ok w1 := h.grown (grown_of_below hb none) (fun k e => by cases e)
theorem grown_setCell (w : World) (a : Addr) (u : Value) : w.grownBy (w.setCell a u) (some a.block) :=
  ⟨rfl, rfl, rfl, by simp [World.setCell], fun i _ hi => Below.heap_setCell w a u i (fun e => hi (by rw [e]))⟩
theorem Fr.Ok.setCell {F : Fr} {w : World} {a : Addr} (h : F.Ok w) (ha : ¬ F.prot a.block) (u : Value) : F.Ok (w.setCell a u) :=
  h.grown (row := some a.block) (grown_setCell w a u) (fun k e => by cases e; exact ha)
/-- The queue at qa holds xs; what stays stays. -/
structure HQ (F : Fr) (w : World) (qa : Nat) (xs : List S35) : Prop where
  mk :: (out : ∃ v, w.ownsRow 0 35 3 v xs.length (flat xs) ∧ w.heap[qa]? = some (.cells #[v] 70 (0, 0)) ∧ (¬ F.prot qa ∧ ∀ k, v.ownBlock = some k → ¬ F.prot k) ∧ F.Ok w)
theorem HQ.below {F : Fr} {w w1 : World} {qa : Nat} {xs : List S35} (h : HQ F w qa xs) (hb : Below w.heap.size w w1) : HQ F w1 qa xs := by
  obtain ⟨⟨v, ho, hq, hl, hB⟩⟩ := h
  exact ⟨⟨v, pw_own_below ho hb, blk_below hq hb, hl, hB.below hb⟩⟩
/-- The queue's row has been written, or another one stands in its place. -/
theorem HQ.turn {F : Fr} {w w1 w2 : World} {qa : Nat} {ys : List S35} {v v' : Value} (hq : w.heap[qa]? = some (.cells #[v] 70 (0, 0))) (hl : ¬ F.prot qa ∧ ∀ k, v.ownBlock = some k → ¬ F.prot k) (hB : F.Ok w)
    (hv : ∀ k, v'.ownBlock = some k → ¬ F.prot k)
    (hg : w.grownBy w1 v.ownBlock) (hne : some qa ≠ v.ownBlock) (ho : w1.ownsRow 0 35 3 v' ys.length (flat ys)) (h2 : w2 = w1.setCell ⟨qa, 0, none⟩ v') : HQ F w2 qa ys := by
  subst h2
  have hq1 := blk_grown hq hg hne
  exact ⟨⟨v', own_setCell (p := ⟨qa, 0, none⟩) ho (own_ne ho hq1) v', blk_put hq1 0 v' rfl, ⟨hl.1, hv⟩, (hB.grown hg hl.2).setCell hl.1 _⟩⟩

set_option maxHeartbeats 2000000 in
theorem qpush_calls (F : Fr) (xs : List S35) (x : S35) (qa : Nat) (w : World) (h : HQ F w qa xs) (hn : xs.length ≤ 1000000) :
    Calls Try.prog 71 #[.pointer (some ⟨qa, 0, none⟩), .iface 35 (.agg #[.int .i64 x.f0, .int .i64 x.f1, .int .i64 x.f2])] w fun e w' => e = .returned (.tuple #[]) ∧ HQ F w' qa (xs ++ [x]) := by
  obtain ⟨⟨v, h, hq, hl, hB⟩⟩ := h
  have hc := blk_cell hq 0
  have hf := blk_frozen hq 0
  have hc : w.cell? ⟨qa, 0, none⟩ = some v := hc
  obtain ⟨A, c, rfl⟩ := own_slice h
  have hta : ∀ W : World, (Instr.typeAssert (.iface 35 (.agg #[.int .i64 x.f0, .int .i64 x.f1, .int .i64 x.f2])) 20 35 false).run Try.prog W = .ok (.agg #[.int .i64 x.f0, .int .i64 x.f1, .int .i64 x.f2]) W := fun _ => by kernel_rfl
  have HQ1 := Aside0.mk hq
  have H := Aside0.mk h
  have HB := Aside0.mk hB
  clear h hq hB
  have hca : (w.alloc (.cells #[.int .i64 x.f0, .int .i64 x.f1, .int .i64 x.f2] 35)).cell? ⟨qa, 0, none⟩ = some (.slice A xs.length c) := blk_cell (blk_alloc HQ1.out _) 0
  have hne := own_ne H.out HQ1.out
  have HN := Aside0.mk hne
  clear hne
  go_enter Try.func71, Try.ntmps71
  go_wp2_with fail
  go_region_law (refine step_append_own rfl (.tmp 7) (.tmp 10) 70 rfl 0 35 _ 3 24 Try.underlying70 info35 rfl (by decide) (.slice A xs.length c) xs.length (flat xs) rfl (own_drew (H.out.alloc _)) ⟨w.heap.size, 0, none⟩ 1 1 (vals x) rfl rfl (World.news_of_block (blk_drew (blk_new w _))) (vals_one x) (by unfold maxLen; omega) (by omega) (Nat.zero_le _) ?_; intro v1 w1 hown1 hg1 hat1; obtain ⟨A1, c1, rfl⟩ := own_slice hown1; have HO1 := Aside0.mk hown1; have HG1 := Aside0.mk hg1; have HA1 := Aside0.mk hat1; clear hown1 hg1 hat1; have hq1 := blk_grown (blk_drew (blk_alloc HQ1.out _)) HG1.out HN.out; have hc1 : w1.cell? ⟨qa, 0, none⟩ = some (.slice A xs.length c) := blk_cell hq1 0; have hf1 := blk_frozen hq1 0; clear hq1)
  all_goals
    go_end0
    refine ⟨rfl, HQ.turn (ys := xs ++ [x]) (v := .slice A xs.length c) (v' := .slice A1 (xs.length + 1) c1) (w1 := w1) HQ1.out hl HB.out ?_ ?_ HN.out ?_ rfl⟩
    · intro k hk hp
      rcases HA1.out with e | e
      · exact hl.2 k (e ▸ hk) hp
      · rw [hk] at e
        injection e with e
        have := F.lt k hp
        have := HB.out.size
        simp at e
        omega
    · exact World.grownBy.trans (grown_drew (World.grownBy_alloc w _ _)) HG1.out
    · rw [flat_app, List.length_append]
      exact HO1.out

theorem own_cap {w : World} {base n c size : Nat} {e : TypeId} {A : Option Addr} {xs : List Value} (h : w.ownsRow base e size (.slice A n c) n xs) : n ≤ c := by
  rcases h.2 with ⟨h1, h2⟩ | ⟨g, cap, cur, h1, _, _, h2, _⟩
  · omega
  · cases h1; exact h2
theorem own_takeQ {w : World} {base g c : Nat} {xs : List S35} (h : w.ownsRow base 35 3 (.slice (some ⟨g, 0, none⟩) xs.length c) xs.length (flat xs)) (m : Nat) (hm : m ≤ xs.length) :
    w.ownsRow base 35 3 (.slice (some ⟨g, 0, none⟩) m c) (xs.take m).length (flat (xs.take m)) := by
  have hl : (xs.take m).length = m := by rw [List.length_take]; omega
  obtain ⟨h1, h2⟩ := h
  rcases h2 with ⟨h0, _⟩ | ⟨g', cap', cur, hv, hg, hh, hn, hcap, hsz, htake⟩
  · cases h0
  · cases hv
    refine ⟨by rw [flat_length], .inr ⟨g, c, cur, by rw [hl], hg, hh, by omega, hcap, hsz, ?_⟩⟩
    rw [hl, ← flat_take, ← htake, List.take_take, Nat.min_eq_left (Nat.mul_le_mul_right _ hm)]

set_option maxHeartbeats 2000000 in
theorem qpop_calls (F : Fr) (xs : List S35) (qa : Nat) (w : World) (h : HQ F w qa xs) (h0 : xs.length ≠ 0) (hn : xs.length ≤ 1000000) :
    Calls Try.prog 70 #[.pointer (some ⟨qa, 0, none⟩)] w fun e w' => e = .returned (.iface 35 (.agg #[.int .i64 (xs.getD (xs.length - 1) z35).f0, .int .i64 (xs.getD (xs.length - 1) z35).f1, .int .i64 (xs.getD (xs.length - 1) z35).f2])) ∧ HQ F w' qa (xs.take (xs.length - 1)) := by
  obtain ⟨⟨v, h, hq, hl, hB⟩⟩ := h
  have hc := blk_cell hq 0
  have hf := blk_frozen hq 0
  have hc : w.cell? ⟨qa, 0, none⟩ = some v := hc
  obtain ⟨g, c, rfl, hx0, hx1, hx2⟩ := own_elem h (i := xs.length - 1) (by omega)
  generalize xs.getD (xs.length - 1) z35 = x at *
  have HQ1 := Aside0.mk hq
  have H := Aside0.mk h
  have HB := Aside0.mk hB
  clear h hq hB
  have hne := own_ne H.out HQ1.out
  have HN := Aside0.mk hne
  clear hne
  have hca : (w.alloc (.cells #[.int .i64 x.f0, .int .i64 x.f1, .int .i64 x.f2] 35)).cell? ⟨qa, 0, none⟩ = some (.slice (some ⟨g, 0, none⟩) xs.length c) := blk_cell (blk_alloc HQ1.out _) 0
  have hfa : (w.alloc (.cells #[.int .i64 x.f0, .int .i64 x.f1, .int .i64 x.f2] 35)).frozen? ⟨qa, 0, none⟩ = false := blk_frozen (blk_alloc HQ1.out _) 0
  have hlt := blk_lt HQ1.out
  have h1 : (1 : Int) ≤ (xs.length : Int) := by omega
  have hlc : xs.length ≤ c := own_cap H.out
  go_enter Try.func70, Try.ntmps70
  go_wp2_with fail
  go_ret
  refine ⟨rfl, HQ.below (HQ.turn (v := .slice (some ⟨g, 0, none⟩) xs.length c) (v' := .slice (some ⟨g, 0, none⟩) (xs.length - 1) c) (w1 := w) HQ1.out hl HB.out (fun k hk => hl.2 k hk) (World.grownBy.refl _ _) HN.out ?_ rfl) (below_alloc (Below.refl _ _) _)⟩
  exact own_takeQ H.out (xs.length - 1) (by omega)
end Go.Proofs.Ytjpnbhcoagnpjaa
