/- cache.Victim: the line that is let go first. -/
import Derived.Test.YtjpnbhcoagnpjaaCacheFind
namespace Go.Proofs.Ytjpnbhcoagnpjaa
namespace Ca
open Go.RowKit Go.Proofs.YtjpnbhcoagnpjaaW.PrintWords Go.Proofs.YtjpnbhcoagnpjaaW.PrintLast Go.Proofs.YtjpnbhcoagnpjaaW.PrintMore
open Go.Proofs.Ytjpnbhcoagnpjaa.PCacheTells
set_option linter.unusedVariables false
set_option linter.unusedSimpArgs false

def vless (x y : S56) : Bool := !decide (y.f0 < 0) && (decide (x.f0 < 0) || decide (x.f1 < y.f1))
set_option maxHeartbeats 2000000 in
theorem vless_calls (x y : S56) (w : World) : Calls Try.prog 41 #[.agg #[.int .i64 x.f0, .int .i64 x.f1, .int .i64 x.f2], .agg #[.int .i64 y.f0, .int .i64 y.f1, .int .i64 y.f2]] w
    fun e w' => e = .returned (.bool (vless x y)) ∧ Below w.heap.size w w' := by
  have HB := Aside0.mk (below_alloc (below_alloc (Below.refl w.heap.size w) (.cells #[.int .i64 x.f0, .int .i64 x.f1, .int .i64 x.f2] 56)) (.cells #[.int .i64 y.f0, .int .i64 y.f1, .int .i64 y.f2] 56))
  have hx := blk_new w (.cells #[.int .i64 x.f0, .int .i64 x.f1, .int .i64 x.f2] 56)
  replace hx := blk_alloc hx (.cells #[.int .i64 y.f0, .int .i64 y.f1, .int .i64 y.f2] 56)
  have hy := blk_new (w.alloc (.cells #[.int .i64 x.f0, .int .i64 x.f1, .int .i64 x.f2] 56)) (.cells #[.int .i64 y.f0, .int .i64 y.f1, .int .i64 y.f2] 56)
  rw [show (w.alloc (.cells #[.int .i64 x.f0, .int .i64 x.f1, .int .i64 x.f2] 56)).heap.size = w.heap.size + 1 by simp] at hy
  unfold vless
  go_enter Try.func41, Try.ntmps41
  by_cases h0 : y.f0 < 0
  · have e0 : decide (y.f0 < 0) = true := decide_eq_true h0
    have E0 := Aside0.mk e0
    clear hx hy h0
    go_wp2_with fail
    go_ret
    exact ⟨by rw [E0.out]; rfl, HB.out⟩
  · have e0 : decide (y.f0 < 0) = false := decide_eq_false h0
    have E0 := Aside0.mk e0
    by_cases h1 : x.f0 < 0
    · have e1 : decide (x.f0 < 0) = true := decide_eq_true h1
      have E1 := Aside0.mk e1
      clear h0 h1
      go_upto_region 3 with (fail)
      generalize (w.alloc (.cells #[.int .i64 x.f0, .int .i64 x.f1, .int .i64 x.f2] 56)).alloc (.cells #[.int .i64 y.f0, .int .i64 y.f1, .int .i64 y.f2] 56) = wa at *
      have q0 : wa.cell? ⟨w.heap.size, 0, none⟩ = some (.int .i64 x.f0) := blk_cell hx 0
      go_wp2_with fail
      go_ret
      exact ⟨by rw [E0.out, E1.out]; rfl, HB.out⟩
    · have e1 : decide (x.f0 < 0) = false := decide_eq_false h1
      have E1 := Aside0.mk e1
      clear h0 h1
      go_upto_region 3 with (fail)
      generalize (w.alloc (.cells #[.int .i64 x.f0, .int .i64 x.f1, .int .i64 x.f2] 56)).alloc (.cells #[.int .i64 y.f0, .int .i64 y.f1, .int .i64 y.f2] 56) = wa at *
      have q0 : wa.cell? ⟨w.heap.size, 0, none⟩ = some (.int .i64 x.f0) := blk_cell hx 0
      have q1 : wa.cell? ⟨w.heap.size, 1, none⟩ = some (.int .i64 x.f1) := blk_cell hx 1
      have q2 : wa.cell? ⟨w.heap.size + 1, 1, none⟩ = some (.int .i64 y.f1) := blk_cell hy 1
      go_wp2_with fail
      go_ret
      exact ⟨by rw [E0.out, E1.out]; rfl, HB.out⟩
def vicC (l : List S56) (b : Option Nat) (x : S56) : Bool := decide (x.f2 = 0) && (match b with | none => true | some j => vless x (rd_T56 l j))
def vicF (l : List S56) : Nat → Option Nat
  | 0 => none
  | n + 1 => if vicC l (vicF l n) (rd_T56 l n) then some n else vicF l n
def bestI : Option Nat → Int
  | none => -1
  | some j => j
def victimP (l : List S56) : Int × Int := if mayB l then (match vicF l l.length with | none => (0, 18) | some j => ((j : Int), 0)) else (0, 1)
theorem vicF_lt (l : List S56) : ∀ n j, vicF l n = some j → j < n
  | 0, j, h => by simp [vicF] at h
  | n + 1, j, h => by
    rw [vicF] at h
    split at h
    · simp at h; omega
    · have := vicF_lt l n j h; omega
set_option maxHeartbeats 4000000 in
set_option maxRecDepth 100000 in
theorem victim_calls (A0 : Option Addr) (c0 : Nat) (l0 : List S56) (w : World) (hr0 : Kd.C k56 w A0 l0.length l0) (hc0 : l0.length ≤ c0) (hn : l0.length ≤ 1000000) (hwf : ∀ x ∈ l0, (Lit.int .i64 x.f0).wf = true) :
    Calls Try.prog 21 #[.slice A0 l0.length c0] w fun e w' => e = .returned (.tuple #[.int .i64 (victimP l0).1, .int .i64 (victimP l0).2]) ∧ Below w.heap.size w w' := by
  have HM := Aside0.mk (may_calls A0 c0 l0 w hr0 hc0 hn hwf)
  have HR0 := Aside0.mk hr0
  clear hr0
  cases hm : mayB l0
  · have HP : Aside0 (victimP l0 = (0, 1)) := ⟨by rw [victimP, hm]; rfl⟩
    rw [hm] at HM
    clear hm
    go_enter Try.func21, Try.ntmps21
    go_wp2_with fail
    refine HM.out.mono ?_
    rintro e w1 ⟨rfl, hb⟩
    have HB := Aside0.mk hb
    clear hb
    go_wp2_with fail
    go_ret2
    exact ⟨by rw [HP.out]; rfl, HB.out⟩
  · have HP : Aside0 (victimP l0 = (match vicF l0 l0.length with | none => (0, 18) | some j => ((j : Int), 0))) := ⟨by rw [victimP, if_pos hm]⟩
    rw [hm] at HM
    clear hm
    go_enter Try.func21, Try.ntmps21
    go_wp2_with fail
    refine HM.out.mono ?_
    rintro e w1 ⟨rfl, hb⟩
    have HB := Aside0.mk hb
    clear hb HM
    go_wp2_with fail
    go_loopw [4, 13] (fun b i wr => ∃ (k : Nat) (bb : Option Nat), k ≤ l0.length ∧ i = .int .i64 k ∧ b = .int .i64 (bestI bb) ∧ Aside0 (vicF l0 k = bb) ∧ Aside0 (Below w.heap.size w wr)) (fun _ i _ => l0.length - (intOf i).toNat)
    case atStart => exact ⟨0, none, Nat.zero_le _, rfl, rfl, ⟨rfl⟩, HB⟩
    case round =>
      obtain ⟨k, bb, hk, rfl, rfl, HV, HB⟩ := hrel
      by_cases hlt : k < l0.length
      · obtain ⟨ad, hA, hx0, hx1, hx2⟩ := at_T56 (Kd.C_below HR0.out HB.out) k (by omega) (by omega)
        subst hA
        rw [Int.toNat_natCast] at hx0 hx1 hx2
        obtain ⟨X, hX⟩ : ∃ X, X = rd_T56 l0 k := ⟨_, rfl⟩
        rw [← hX] at hx0 hx1 hx2
        have hstep : vicF l0 (k + 1) = if vicC l0 bb X then some k else bb := by rw [vicF, HV.out, ← hX]
        have HSt := Aside0.mk hstep
        clear hstep hX
        go_upto_region 8 with (fail)
        have hnew := blk_new wr (.cells #[.int .i64 X.f0, .int .i64 X.f1, .int .i64 X.f2] 56)
        replace HB := Aside0.mk (HB.out.alloc HB.out.size (.cells #[.int .i64 X.f0, .int .i64 X.f1, .int .i64 X.f2] 56))
        clear hx0 hx1 hx2
        generalize wr.alloc (.cells #[.int .i64 X.f0, .int .i64 X.f1, .int .i64 X.f2] 56) = wa at *
        have q0 : wa.cell? ⟨wr.heap.size, 0, none⟩ = some (.int .i64 X.f0) := blk_cell hnew 0
        have q1 : wa.cell? ⟨wr.heap.size, 1, none⟩ = some (.int .i64 X.f1) := blk_cell hnew 1
        have q2 : wa.cell? ⟨wr.heap.size, 2, none⟩ = some (.int .i64 X.f2) := blk_cell hnew 2
        clear hnew
        go_cut [33] (fun v33 wc => v33 = .bool (vicC l0 bb X) ∧ Aside0 (Below w.heap.size w wc))
        case first =>
          by_cases h2 : X.f2 = 0
          · have d2 : (X.f2 == 0) = true := by simpa using h2
            cases bb with
            | none =>
              have hC : Aside0 (vicC l0 none X = true) := ⟨by simp [vicC, h2]⟩
              have hb : bestI none = -1 := rfl
              rw [hb]
              clear h2 hb
              go_wp2_with fail
              go_quiet (fail)
              go_wp2_with fail
              go_meet
              case rel => exact ⟨by rw [hC.out], ⟨pw_below_drewN HB.out _⟩⟩
            | some j =>
              have hjl : j < l0.length := by have := vicF_lt l0 k j HV.out; omega
              obtain ⟨ad1, hA1, hy0, hy1, hy2⟩ := at_T56 (Kd.C_below HR0.out HB.out) j (by omega) (by omega)
              obtain rfl : ad = ad1 := Option.some.inj hA1
              clear hA1
              rw [Int.toNat_natCast] at hy0 hy1 hy2
              have hC : Aside0 (vicC l0 (some j) X = vless X (rd_T56 l0 j)) := ⟨by simp [vicC, h2]⟩
              have hb : bestI (some j) = (j : Int) := rfl
              rw [hb]
              generalize rd_T56 l0 j = Y at *
              have hj0 : (0 : Int) ≤ (j : Int) := by omega
              have hj1 : (j : Int) < (l0.length : Int) := by omega
              have e1 : decide ((j : Int) < 0) = false := decide_eq_false (by omega)
              clear h2 hb
              go_wp2_with fail
              go_still_tail 13, (by kernel_rfl)
              change wpList _ _ _ _ _ wa.drew
              have HBd := Aside0.mk (below_drew HB.out)
              clear q0 q1 q2 hy0 hy1 hy2
              generalize wa.drew = wb at *
              go_wp2_with fail
              refine (vless_calls X Y wb).mono ?_
              rintro e w3 ⟨rfl, hb⟩
              have HBe := Aside0.mk (below_then HBd.out HBd.out.size hb)
              clear hb
              go_wp2_with fail
              go_meet
              case rel => exact ⟨by rw [hC.out], HBe⟩
          · have d2 : (X.f2 == 0) = false := by simpa using h2
            have hC : Aside0 (vicC l0 bb X = false) := ⟨by simp [vicC, h2]⟩
            clear h2
            go_wp2_with fail
            go_quiet (fail)
            go_wp2_with fail
            go_meet
            case rel => exact ⟨by rw [hC.out], ⟨pw_below_drewN HB.out _⟩⟩
        case rest =>
          obtain ⟨rfl, HB⟩ := hcut
          have hst := HSt.out
          cases hc : vicC l0 bb X
          · rw [hc] at hst
            have HS := Aside0.mk hst
            clear hst hc q0 q1 q2
            go_wp2_with fail
            go_roundw
            case rel => exact ⟨k + 1, bb, by omega, by go_num, rfl, ⟨by rw [HS.out]; rfl⟩, HB⟩
            case measure => simp [intOf]; omega
          · rw [hc] at hst
            have HS := Aside0.mk hst
            clear hst hc q0 q1 q2
            go_wp2_with fail
            go_roundw
            case rel => exact ⟨k + 1, some k, by omega, by go_num, rfl, ⟨by rw [HS.out]; rfl⟩, HB⟩
            case measure => simp [intOf]; omega
      · have he := HP.out
        obtain rfl : k = l0.length := by omega
        rw [HV.out] at he
        have HE := Aside0.mk he
        clear he HP
        cases bb with
        | none =>
          go_wp2_with fail
          go_ret2
          exact ⟨by rw [HE.out]; rfl, HB.out⟩
        | some j =>
          have hj : bestI (some j) = (j : Int) := rfl
          rw [hj]
          clear hj
          have e1 : decide ((j : Int) < 0) = false := decide_eq_false (by omega)
          go_wp2_with fail
          go_ret2
          exact ⟨by rw [HE.out]; rfl, HB.out⟩
end Ca
end Go.Proofs.Ytjpnbhcoagnpjaa
