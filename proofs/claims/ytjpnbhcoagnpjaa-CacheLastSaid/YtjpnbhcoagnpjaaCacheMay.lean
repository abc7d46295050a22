/- cache.May: whether lines may be. -/
import Derived.Test.YtjpnbhcoagnpjaaMapLaws
import Derived.Test.YtjpnbhcoagnpjaaPCacheTellsx2
import Derived.Test.YtjpnbhcoagnpjaaPCachePinsx1
import Derived.Deep.MidRow
import Derived.StillTailTactics
import Derived.WalkLawsBesides
import Derived.WalkSpells
namespace Go.Proofs.Ytjpnbhcoagnpjaa
namespace Ca
open Go.RowKit Go.Proofs.YtjpnbhcoagnpjaaW.PrintWords Go.Proofs.YtjpnbhcoagnpjaaW.PrintLast Go.Proofs.YtjpnbhcoagnpjaaW.PrintMore
open Go.Proofs.Ytjpnbhcoagnpjaa.PCacheTells
set_option linter.unusedVariables false
set_option linter.unusedSimpArgs false

def inB (n h : Int) : Bool := decide (0 ≤ n) && decide (n ≤ h)
def badL (x : S56) : Bool := decide (x.f0 < -1) || (decide (x.f0 = -1) && !(decide (x.f1 = 0) && decide (x.f2 = 0)))
def okL (x : S56) : Bool := !badL x && inB x.f1 2147483647 && inB x.f2 99
def mayC : List S56 → (Int → Bool) → Bool
  | [], _ => true
  | x :: r, S => okL x && !(decide (0 ≤ x.f0) && S x.f0) && mayC r (fun y => decide (y = x.f0) || S y)
def mayB (l : List S56) : Bool := mayC l (fun _ => false) && decide (1 ≤ l.length) && decide (l.length ≤ 256)
theorem ret_bool {a b : Bool} (h : a = b) : Ending.returned (.bool a) = .returned (.bool b) := by rw [h]
theorem drop_cons {l : List S56} {k : Nat} (h : k < l.length) : l.drop k = rd_T56 l k :: l.drop (k + 1) := by
  rw [List.drop_eq_getElem_cons h]
  simp [rd_T56, List.getD_eq_getElem?_getD, List.getElem?_eq_getElem h]
theorem rd_mem {l : List S56} {k : Nat} (h : k < l.length) : rd_T56 l k ∈ l := by simp [rd_T56, List.getD_eq_getElem?_getD, List.getElem?_eq_getElem h]
theorem tick_calls (n : Int) (w : World) : Calls Try.prog 43 #[.int .i64 n] w fun e w' => e = .returned (.bool (inB n 2147483647)) ∧ Drawn0 w w' :=
  cache_tick.calls n _ w (by
    unfold cache_tick.f inB
    split
    · rename_i h; rw [decide_eq_true (show 0 ≤ n from h), Bool.true_and]
    · rename_i h; rw [decide_eq_false (show ¬ 0 ≤ n from h), Bool.false_and])
theorem none_calls (w : World) : Calls Try.prog 42 #[] w fun e w' => e = .returned (.agg #[.int .i64 (-1), .int .i64 0, .int .i64 0]) ∧ Below w.heap.size w w' := cache_none.calls (-1) 0 0 w rfl
def eqL (x y : S56) : Bool := x.f0 == y.f0 && (x.f1 == y.f1 && (x.f2 == y.f2))
theorem neq56 (W : World) (x y : S56) : (binOp .neq 56 (.agg #[.int .i64 x.f0, .int .i64 x.f1, .int .i64 x.f2]) (.agg #[.int .i64 y.f0, .int .i64 y.f1, .int .i64 y.f2])).run Try.prog W = .ok (.bool (!eqL x y)) W := by
  have h := PCachePins.eqA56 9998 W x.f0 y.f0 x.f1 y.f1 x.f2 y.f2
  simp only [binOp]
  simp [Op.equal, Op.maxDepth, h, eqL]
theorem setat_below {P : Program} {kt et : TypeId} {w w' : World} {b n c : Nat} {S : Int → Bool} (h : SetAt P kt et w b n S c) (hb : Below w.heap.size w w') : SetAt P kt et w' b n S c := h.move (hb.block _ h.lt)
def noneL : S56 := ⟨-1, 0, 0⟩
set_option maxHeartbeats 4000000 in
set_option maxRecDepth 100000 in
theorem may_calls (A0 : Option Addr) (c0 : Nat) (l0 : List S56) (w : World) (hr0 : Kd.C k56 w A0 l0.length l0) (hc0 : l0.length ≤ c0) (hn : l0.length ≤ 1000000) (hwf : ∀ x ∈ l0, (Lit.int .i64 x.f0).wf = true) :
    Calls Try.prog 23 #[.slice A0 l0.length c0] w fun e w' => e = .returned (.bool (mayB l0)) ∧ Below w.heap.size w w' := by
  have HR0 := Aside0.mk hr0
  have HWF := Aside0.mk hwf
  clear hr0 hwf
  have hmm := @run_makeMap Try.prog
  go_enter Try.func23, Try.ntmps23
  go_wp2
  clear hmm
  go_loopw [9] (fun i wr => ∃ k : Nat, k ≤ l0.length ∧ i = .int .i64 k ∧ Aside0 (∃ S c, SetAt Try.prog 3 4 wr w.heap.size k S c ∧ mayC (l0.drop k) S = mayC l0 (fun _ => false)) ∧ Aside0 (Below w.heap.size w wr)) (fun i _ => l0.length - (intOf i).toNat)
  case atStart => exact ⟨0, Nat.zero_le _, rfl, ⟨_, _, SetAt.made _ _ _ _, rfl⟩, ⟨(Below.refl _ _).alloc (Nat.le_refl _) _⟩⟩
  case round =>
    obtain ⟨k, hk, rfl, HS, HB⟩ := hrel
    by_cases hlt : k < l0.length
    · obtain ⟨ad, rfl, hx0, hx1, hx2⟩ := at_T56 HR0.out k (by omega) (by omega)
      replace hx0 := (HB.out.cell (World.block_lt_of_cell? w _ hx0)).trans hx0
      replace hx1 := (HB.out.cell (World.block_lt_of_cell? w _ hx1)).trans hx1
      replace hx2 := (HB.out.cell (World.block_lt_of_cell? w _ hx2)).trans hx2
      rw [Int.toNat_natCast] at hx0 hx1 hx2
      obtain ⟨S, c, HS, HM⟩ := HS.out
      rw [drop_cons hlt, mayC] at HM
      have HXW := Aside0.mk (HWF.out _ (rd_mem hlt))
      generalize rd_T56 l0 k = X at *
      replace HM := Aside0.mk HM
      replace HS := Aside0.mk HS
      go_upto_region 5 with (fail)
      have hnew := blk_new wr (.cells #[.int .i64 X.f0, .int .i64 X.f1, .int .i64 X.f2] 56)
      replace HB := Aside0.mk (HB.out.alloc HB.out.size (.cells #[.int .i64 X.f0, .int .i64 X.f1, .int .i64 X.f2] 56))
      replace HS := Aside0.mk (HS.out.alloc (.cells #[.int .i64 X.f0, .int .i64 X.f1, .int .i64 X.f2] 56))
      have HSZ : Aside0 (wr.heap.size < (wr.alloc (.cells #[.int .i64 X.f0, .int .i64 X.f1, .int .i64 X.f2] 56)).heap.size) := ⟨by simp⟩
      clear hx0 hx1 hx2
      generalize wr.alloc (.cells #[.int .i64 X.f0, .int .i64 X.f1, .int .i64 X.f2] 56) = wa at *
      have q0 : wa.cell? ⟨wr.heap.size, 0, none⟩ = some (.int .i64 X.f0) := blk_cell hnew 0
      have q1 : wa.cell? ⟨wr.heap.size, 1, none⟩ = some (.int .i64 X.f1) := blk_cell hnew 1
      have q2 : wa.cell? ⟨wr.heap.size, 2, none⟩ = some (.int .i64 X.f2) := blk_cell hnew 2
      clear hnew
      go_cut [13] (fun v13 wc => v13 = .bool (badL X) ∧ Aside0 (SetAt Try.prog 3 4 wc w.heap.size k S c) ∧ Aside0 (Below w.heap.size w wc) ∧ wc.cell? ⟨wr.heap.size, 0, none⟩ = some (.int .i64 X.f0) ∧ wc.cell? ⟨wr.heap.size, 1, none⟩ = some (.int .i64 X.f1) ∧ wc.cell? ⟨wr.heap.size, 2, none⟩ = some (.int .i64 X.f2))
      case first =>
        by_cases h1 : X.f0 < -1
        · have hb : badL X = true := by rw [badL, decide_eq_true h1]; rfl
          have d1 : decide (X.f0 < -1) = true := decide_eq_true h1
          have HBL := Aside0.mk hb
          clear hb
          go_wp2_with fail
          go_quiet (fail)
          go_wp2_with fail
          go_meet
          case rel => exact ⟨by rw [HBL.out], ⟨HS.out.move rfl⟩, ⟨pw_below_drewN HB.out _⟩, q0, q1, q2⟩
        · have d1 : decide (X.f0 < -1) = false := decide_eq_false h1
          by_cases h2 : X.f0 = -1
          · have hb : badL X = !eqL X noneL := by rw [badL, d1, decide_eq_true h2]; simp [eqL, noneL, h2, Bool.beq_eq_decide_eq]
            have d2 : (X.f0 == -1) = true := by simpa using h2
            have hne := fun W => neq56 W X noneL
            have e1 : (!eqL X noneL) = (!(X.f1 == 0 && X.f2 == 0)) := by simp [eqL, noneL, h2]
            rw [e1] at hne hb
            simp only [noneL] at hne
            clear h1 h2 e1
            have HBL := Aside0.mk hb
            clear hb
            go_wp2_with fail
            have HSd := Aside0.mk (SetAt.move HS.out (w' := wa.drew) rfl)
            have HBd := Aside0.mk (below_drew HB.out)
            have p0 : wa.drew.cell? ⟨wr.heap.size, 0, none⟩ = some (.int .i64 X.f0) := q0
            have p1 : wa.drew.cell? ⟨wr.heap.size, 1, none⟩ = some (.int .i64 X.f1) := q1
            have p2 : wa.drew.cell? ⟨wr.heap.size, 2, none⟩ = some (.int .i64 X.f2) := q2
            clear q0 q1 q2
            go_region_held3 (fun w' => w'.cell? ⟨wr.heap.size, 0, none⟩ = some (.int .i64 X.f0) ∧ w'.cell? ⟨wr.heap.size, 1, none⟩ = some (.int .i64 X.f1) ∧ w'.cell? ⟨wr.heap.size, 2, none⟩ = some (.int .i64 X.f2) ∧ Aside0 (SetAt Try.prog 3 4 w' w.heap.size k S c) ∧ Aside0 (Below w.heap.size w w'))
              (first | go_keep)
              ((first | (go_at_call 42; refine (none_calls _).mono ?_; rintro e w5 ⟨rfl, hb5⟩; have r0 : w5.cell? ⟨wr.heap.size, 0, none⟩ = some (.int .i64 X.f0) := pw_cell_below hb5 (by first | assumption | go_simp); have r1 : w5.cell? ⟨wr.heap.size, 1, none⟩ = some (.int .i64 X.f1) := pw_cell_below hb5 (by first | assumption | go_simp); have r2 : w5.cell? ⟨wr.heap.size, 2, none⟩ = some (.int .i64 X.f2) := pw_cell_below hb5 (by first | assumption | go_simp); have rS : Aside0 (SetAt Try.prog 3 4 w5 w.heap.size k S c) := ⟨setat_below (Aside0.out (by assumption)) hb5⟩; have rB : Aside0 (Below w.heap.size w w5) := ⟨below_then (Aside0.out (by assumption)) (Aside0.out (by assumption : Aside0 (Below w.heap.size w _))).size hb5⟩; clear hb5)))
            all_goals go_wp2
            all_goals go_meet
            all_goals
              case rel => exact ⟨by rw [HBL.out]; simp [*], by assumption, by assumption, by assumption, by assumption, by assumption⟩
          · have d2 : (X.f0 == -1) = false := by simpa using h2
            have hb : badL X = false := by rw [badL, d1, decide_eq_false h2]; rfl
            have HBL := Aside0.mk hb
            clear hb
            go_wp2_with fail
            go_quiet (fail)
            go_wp2_with fail
            go_meet
            case rel => exact ⟨by rw [HBL.out], ⟨HS.out.move rfl⟩, ⟨pw_below_drewN HB.out _⟩, q0, q1, q2⟩
      case rest =>
        obtain ⟨rfl, HS, HB, q0, q1, q2⟩ := hcut
        cases hbad : badL X
        · have HBad := Aside0.mk hbad
          clear hbad
          have hlk : (Instr.lookup 61 (.map (some w.heap.size)) (.int .i64 X.f0) false).run Try.prog wc = .ok (.bool (S X.f0)) wc :=
            run_lookup_set 61 Try.underlying3 Try.underlying4 Try.underlying61 (by kernel_rfl) HS.out _ HXW.out
          go_upto_region 7 with (fail)
          go_cut [27] (fun v27 wd => v27 = .bool (decide (0 ≤ X.f0) && S X.f0) ∧ wd = wc)
          case first =>
            by_cases h0 : 0 ≤ X.f0
            · have d0 : decide (0 ≤ X.f0) = true := decide_eq_true h0
              have HD := Aside0.mk d0
              go_wp2_with fail
              go_meet
              case rel => exact ⟨by rw [HD.out]; simp, rfl⟩
            · have d0 : decide (0 ≤ X.f0) = false := decide_eq_false h0
              have HD := Aside0.mk d0
              go_wp2_with fail
              go_meet
              case rel => exact ⟨by rw [HD.out]; simp, rfl⟩
          case rest =>
            obtain ⟨rfl, rfl⟩ := hcut
            clear hlk
            cases hdup : (decide (0 ≤ X.f0) && S X.f0)
            · have HDup := Aside0.mk hdup
              clear hdup
              have HT := Aside0.mk (tick_calls X.f1)
              cases ht : inB X.f1 2147483647
              · rw [ht] at HT
                have HT2 := Aside0.mk ht
                clear ht
                go_wp2_with fail
                refine (HT.out _).mono ?_
                rintro e w3 ⟨rfl, ⟨nd, rfl⟩⟩
                go_wp2_with fail
                go_ret
                exact ⟨ret_bool (by rw [mayB, ← HM.out, okL, HT2.out]; simp), pw_below_drewN HB.out _⟩
              · rw [ht] at HT
                have HT2 := Aside0.mk ht
                clear ht
                by_cases h2 : 0 ≤ X.f2 ∧ X.f2 ≤ 99
                · have HIn : Aside0 (inB X.f2 99 = true) := ⟨by simp [inB, h2]⟩
                  have e0 : decide (X.f2 < 0) = false := by simp; omega
                  have e1 : decide (99 < X.f2) = false := by simp; omega
                  have hb : badL X = false := HBad.out
                  have HR := HS.out
                  clear h2
                  go_wp2_with fail
                  refine (HT.out _).mono ?_
                  rintro e w3 ⟨rfl, ⟨nd, rfl⟩⟩
                  have HS3 := Aside0.mk (SetAt.move HS.out (w' := wc.drewN nd) rfl)
                  have HB3 := Aside0.mk (pw_below_drewN HB.out nd)
                  clear HR hb
                  go_wp2_with (at_mapUpdate; refine wpList_mapUpdate_set rfl _ _ _ 61 rfl Try.underlying3 Try.underlying4 Try.underlying61 rfl HS3.out (by unfold maxLen; omega) _ rfl rfl HXW.out ?_; intro w2 HS2 HG2; replace HS2 := Aside0.mk HS2; replace HG2 := Aside0.mk HG2)
                  go_roundw
                  case rel =>
                    refine ⟨k + 1, by omega, by go_num, ⟨_, _, HS2.out, ?_⟩, ⟨HB3.out.grown HG2.out HB3.out.size (by intro q hq; injection hq with hq; omega)⟩⟩
                    rw [← HM.out, okL, HBad.out, HT2.out, HIn.out, HDup.out]
                    simp
                  case measure => simp [intOf]; omega
                · have HIn : Aside0 (inB X.f2 99 = false) := ⟨by simp [inB]; omega⟩
                  have hX : X.f2 < 0 ∨ (¬ X.f2 < 0 ∧ 99 < X.f2) := by omega
                  clear h2
                  rcases hX with h2 | ⟨h2, h3⟩
                  · have e0 : decide (X.f2 < 0) = true := by simp; omega
                    clear h2
                    go_wp2_with fail
                    refine (HT.out _).mono ?_
                    rintro e w3 ⟨rfl, ⟨nd, rfl⟩⟩
                    go_wp2_with fail
                    go_ret
                    exact ⟨ret_bool (by rw [mayB, ← HM.out, okL, HIn.out]; simp), pw_below_drewN HB.out _⟩
                  · have e0 : decide (X.f2 < 0) = false := by simp; omega
                    have e1 : decide (99 < X.f2) = true := by simp; omega
                    clear h2 h3
                    go_wp2_with fail
                    refine (HT.out _).mono ?_
                    rintro e w3 ⟨rfl, ⟨nd, rfl⟩⟩
                    go_wp2_with fail
                    go_ret
                    exact ⟨ret_bool (by rw [mayB, ← HM.out, okL, HIn.out]; simp), pw_below_drewN HB.out _⟩
            · have HDup := Aside0.mk hdup
              clear hdup
              go_wp2_with fail
              go_ret
              exact ⟨ret_bool (by rw [mayB, ← HM.out, HDup.out]; simp), HB.out⟩
        · have HBad := Aside0.mk hbad
          clear hbad
          go_wp2_with fail
          go_ret
          exact ⟨ret_bool (by rw [mayB, ← HM.out, okL, HBad.out]; simp), HB.out⟩
    · obtain ⟨S, c, _, HM⟩ := HS.out
      rw [List.drop_of_length_le (by omega), mayC] at HM
      replace HM := Aside0.mk HM
      clear HS
      by_cases h1 : 1 ≤ l0.length
      · have e1 : decide (1 ≤ (l0.length : Int)) = true := decide_eq_true (by omega)
        go_wp2_with fail
        go_ret
        exact ⟨ret_bool (by rw [mayB, ← HM.out, decide_eq_true h1]; simp only [Bool.and_self, Bool.true_and]; exact decide_eq_decide.2 (by omega)), HB.out⟩
      · have e1 : decide (1 ≤ (l0.length : Int)) = false := decide_eq_false (by omega)
        have e2 : decide (1 ≤ l0.length) = false := decide_eq_false (by omega)
        have E2 := Aside0.mk e2
        clear h1
        go_wp2_with fail
        go_ret
        exact ⟨ret_bool (by rw [mayB, ← HM.out, E2.out]; rfl), HB.out⟩
end Ca
end Go.Proofs.Ytjpnbhcoagnpjaa
