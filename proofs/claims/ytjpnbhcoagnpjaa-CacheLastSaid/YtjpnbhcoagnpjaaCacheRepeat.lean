/- slices.Repeat of one line; cache.New. -/
import Derived.Test.YtjpnbhcoagnpjaaCacheRows
import Derived.Test.YtjpnbhcoagnpjaaCopyRow
namespace Go.Proofs.Ytjpnbhcoagnpjaa
namespace Ca
open Go.RowKit Go.Proofs.YtjpnbhcoagnpjaaW.PrintWords Go.Proofs.YtjpnbhcoagnpjaaW.PrintLast Go.Proofs.YtjpnbhcoagnpjaaW.PrintMore
open Go.Proofs.Ytjpnbhcoagnpjaa.PCacheTells
set_option linter.unusedVariables false
set_option linter.unusedSimpArgs false

theorem mul_one_all : ∀ n : Fin 257, bits_Mul.f 1 ((n.val : Nat) : Int) = some (0, ((n.val : Nat) : Int)) := by decide +kernel
theorem mul_calls (n : Nat) (hn : n ≤ 256) (w : World) : Calls Try.prog 49 #[.int .u64 1, .int .u64 n] w fun e w' => e = .returned (.tuple #[.int .u64 0, .int .u64 n]) ∧ Drawn0 w w' :=
  bits_Mul.calls 1 n 0 n w (mul_one_all ⟨n, by omega⟩)
theorem size56 : (Try.prog.info? 56).map (·.size) = some 3 := by kernel_rfl
theorem splice_take (L cs : List Value) (off : Nat) (h : off + cs.length ≤ L.length) : (Go.splice L off cs).take (off + cs.length) = L.take off ++ cs := by
  unfold Go.splice
  rw [← List.append_assoc, List.take_append_of_le_length (by simp; omega), List.take_of_length_le (by simp; omega)]
theorem make_run (n : Nat) (hn : n ≤ 256) (W : World) : (Instr.makeSlice 44 (.int .i64 n) (.int .i64 n)).run Try.prog W = .ok (.slice (some ⟨W.heap.size, 0, none⟩) n n) (W.alloc (.cells (Go.madeCells #[.int .i64 0, .int .i64 0, .int .i64 0] (n * 3)) 56)) := by
  obtain ⟨i0, hi, hzz⟩ := Option.map_eq_some_iff.1 info56
  simp only [Prod.mk.injEq] at hzz
  obtain ⟨hz0, hz1, hz2⟩ := hzz
  have hr := run_make (P := Try.prog) W 44 56 i0 _ Try.underlying44 hi hz0 .i64 .i64 (n : Int) (n : Int) (by omega) (by omega) (by rw [hz2]; omega) (by omega)
  simp only [Int.toNat_natCast] at hr
  rw [hz1] at hr
  exact hr
theorem slice_from (g n m : Nat) (hm : 1 ≤ m) (h : m < n) (W : World) : (Instr.slice 44 (.slice (some ⟨g, 0, none⟩) n n) (some (.int .i64 (m : Int))) none none).run Try.prog W = .ok (.slice (some ⟨g, m * 3, none⟩) (n - m) (n - m)) W := by
  rw [run_slice_l W 44 _ n n Try.underlying44 .i64 m (by omega) (by omega)]
  have hs : (sizeOf (Try.prog.elem 44)).run Try.prog W = .ok 3 W := by kernel_rfl
  rw [hs]
  simp [Result.andThen, sliced, Addr.add]
  rw [if_neg (by omega), if_neg (by omega)]
theorem slice_to (g n m : Nat) (h : m < n) (W : World) : (Instr.slice 44 (.slice (some ⟨g, 0, none⟩) n n) none (some (.int .i64 (m : Int))) none).run Try.prog W = .ok (.slice (some ⟨g, 0, none⟩) m n) W := by
  rw [run_slice_h W 44 _ n n Try.underlying44 .i64 m (by omega) (by omega)]
  have hs : (sizeOf (Try.prog.elem 44)).run Try.prog W = .ok 3 W := by kernel_rfl
  rw [hs]
  simp [Result.andThen, sliced, Addr.add]
set_option maxHeartbeats 400000 in
set_option maxRecDepth 100000 in
theorem repeat_calls (x : S56) (A0 : Option Addr) (c0 : Nat) (n : Nat) (w : World) (hr0 : Kd.C k56 w A0 1 [x]) (hc0 : 1 ≤ c0) (h1 : 1 ≤ n) (h2 : n ≤ 256) :
    Calls Try.prog 44 #[.slice A0 1 c0, .int .i64 n] w fun e w' => ∃ A c, e = .returned (.slice A n c) ∧ n ≤ c ∧ Kd.C k56 w' A n (List.replicate n x) ∧ Below w.heap.size w w' := by
  have HR0 := Aside0.mk hr0
  clear hr0
  go_enter Try.func44, Try.ntmps44
  go_wp2_with fail
  refine (mul_calls n h2 w).mono ?_
  rintro e w1 ⟨rfl, ⟨nd, rfl⟩⟩
  have hmk := make_run n h2 (w.drewN nd)
  have hHB := Aside0.mk (pw_below_drewN (Below.refl w.heap.size w) nd)
  have hsz : (w.drewN nd).heap.size = w.heap.size := rfl
  rw [hsz] at hmk
  have hlen : (Go.madeCells #[.int .i64 0, .int .i64 0, .int .i64 0] (n * 3)).size = n * 3 := size_madeCells _ _
  generalize Go.madeCells #[.int .i64 0, .int .i64 0, .int .i64 0] (n * 3) = Z at *
  go_upto_region 7 with (fail)
  have hg0 : ((w.drewN nd).alloc (.cells Z 56)).heap[w.heap.size]? = some (.cells Z.toList.toArray 56 (0, 0)) := by rw [Array.toArray_toList]; exact blk_new _ _
  have hB0 : Below w.heap.size w ((w.drewN nd).alloc (.cells Z 56)) := below_alloc hHB.out _
  have hZ : Z.toList.length = n * 3 := by simpa using hlen
  generalize (w.drewN nd).alloc (.cells Z 56) = wb at *
  generalize Z.toList = L0 at *
  clear hmk hsz hlen
  obtain ⟨ad, rfl, hcl⟩ := C_cells (Kd.C_below HR0.out hB0) (by simp)
  have HCL := Aside0.mk hcl
  have HG0 := Aside0.mk hg0
  have HB0 := Aside0.mk hB0
  clear hcl hg0 hB0
  have HMin : Aside0 (1 = Nat.min 1 n) := ⟨(Nat.min_eq_left h1).symm⟩
  have HFit : Aside0 (0 + (flat [x]).length ≤ L0.length) := ⟨by rw [flat_length, hZ, List.length_singleton]; omega⟩
  go_wp2_with ((with_reducible refine gate_dst (N := 33) rfl ?_); refine wpList_copy_wide rfl (.tmp 31) (.tmp 32) 44 44 rfl 56 3 Try.underlying44 size56 w.heap.size 0 n n ad 1 c0 rfl rfl L0 56 HG0.out 1 HMin.out (flat [x]) (flat_length _) HCL.out HFit.out (flat_one _) w.heap.size w HB0.out (Nat.le_refl _) ?_; intro w2 hg2 hb2; have HG2 := Aside0.mk hg2; have HB2 := Aside0.mk hb2; clear hg2 hb2)
  have ht0 : (Go.splice L0 0 (flat [x])).take (1 * 3) = flat (List.replicate 1 x) := by
    have := splice_take L0 (flat [x]) 0 HFit.out
    rw [flat_length, List.length_singleton, Nat.zero_add] at this
    simpa using this
  have hs0 : (Go.splice L0 0 (flat [x])).length = n * 3 := by rw [Go.length_splice _ _ _ HFit.out, hZ]
  have HT0 := Aside0.mk ht0
  have HS0 := Aside0.mk hs0
  have HG0' : Aside0 (w2.heap[w.heap.size]? = some (.cells (Go.splice L0 0 (flat [x])).toArray 56 (0, 0))) := ⟨HG2.out⟩
  clear HG0 HG2 HMin HFit HCL HB0 hHB HR0 ht0 hs0
  generalize Go.splice L0 0 (flat [x]) = L1 at *
  go_loopw [8] (fun i wr => ∃ (m : Nat) (L : List Value), i = .int .i64 m ∧ 1 ≤ m ∧ m ≤ n ∧ Aside0 (wr.heap[w.heap.size]? = some (.cells L.toArray 56 (0, 0))) ∧ Aside0 (L.length = n * 3) ∧ Aside0 (L.take (m * 3) = flat (List.replicate m x)) ∧ Aside0 (Below w.heap.size w wr)) (fun i _ => n - (intOf i).toNat)
  case atStart => exact ⟨1, L1, rfl, Nat.le_refl _, h1, HG0', HS0, HT0, HB2⟩
  case round =>
    obtain ⟨m, L, rfl, hm1, hmn, HG, HL, HT, HB⟩ := hrel
    by_cases hlt : m < n
    · obtain ⟨k, hk⟩ : ∃ k : Nat, k = Nat.min m (n - m) := ⟨_, rfl⟩
      have hkk : (k = m ∨ k = n - m) ∧ k ≤ m ∧ k ≤ n - m := by
        have e : Nat.min m (n - m) = min m (n - m) := rfl
        rw [hk, e]
        omega
      have hk1 : 1 ≤ k := by omega
      have hk2 : m + k ≤ n := by omega
      have hk3 : k ≤ m := by omega
      clear hkk
      have HK := Aside0.mk hk
      clear hk
      have HX := Aside0.mk (blk_drew HG.out)
      have HXB := Aside0.mk (below_drew HB.out)
      have hcs : ∀ j v, (flat (List.replicate k x))[j]? = some v → wr.drew.cell? ((⟨w.heap.size, 0, none⟩ : Addr).add j) = some v := by
        intro j v hv
        have hj : j < k * 3 := by have := (List.getElem?_eq_some_iff.1 hv).1; rwa [flat_length, List.length_replicate] at this
        have e : (⟨w.heap.size, 0, none⟩ : Addr).add j = ⟨w.heap.size, j, none⟩ := by
          unfold Addr.add
          split
          · rename_i h0; rw [h0]
          · simp
        rw [e, blk_cell HX.out, List.getElem?_toArray]
        have h3 : (L.take (m * 3))[j]? = L[j]? := by rw [List.getElem?_take, if_pos (by omega)]
        rw [← h3, HT.out, show m = k + (m - k) by omega, ← List.replicate_append_replicate, flat_app, List.getElem?_append_left (by rw [flat_length, List.length_replicate]; exact hj)]
        exact hv
      have HCS := Aside0.mk hcs
      have hln : (flat (List.replicate k x)).length = k * 3 := by rw [flat_length, List.length_replicate]
      have HLN := Aside0.mk hln
      have HFT : Aside0 (m * 3 + (flat (List.replicate k x)).length ≤ L.length) := ⟨by rw [hln, HL.out]; omega⟩
      clear hcs hln
      have hsl1 : ∀ W : World, (Instr.slice 44 (.slice (some ⟨w.heap.size, 0, none⟩) n n) (some (.int .i64 (m : Int))) none none).run Try.prog W = .ok (.slice (some ⟨w.heap.size, m * 3, none⟩) (n - m) (n - m)) W := slice_from _ _ _ hm1 hlt
      have hsl2 : ∀ W : World, (Instr.slice 44 (.slice (some ⟨w.heap.size, 0, none⟩) n n) none (some (.int .i64 (m : Int))) none).run Try.prog W = .ok (.slice (some ⟨w.heap.size, 0, none⟩) m n) W := slice_to _ _ _ hlt
      have hwr : IntKind.i64.wrap ((m : Int) + (k : Int)) = (m : Int) + (k : Int) := IntWalk.i64_in _ (by omega)
      go_upto_region 9 with (fail)
      go_region_law (refine step_copy_wide (by rfl) (.tmp 41) (.tmp 44) 44 44 (by rfl) 56 3 Try.underlying44 size56 w.heap.size (m * 3) (n - m) (n - m) ⟨w.heap.size, 0, none⟩ m n (by simp [Act.eval, Act.put]) (by simp [Act.eval, Act.put]) L 56 HX.out k HK.out (flat (List.replicate k x)) HLN.out HCS.out HFT.out (flat_one _) w.heap.size w HXB.out (Nat.le_refl _) ?_; intro w4 hg4 hb4; have HG4 := Aside0.mk hg4; have HB4 := Aside0.mk hb4; clear hg4 hb4)
      have hnew : (Go.splice L (m * 3) (flat (List.replicate k x))).length = n * 3 := by rw [Go.length_splice _ _ _ HFT.out, HL.out]
      have htake : (Go.splice L (m * 3) (flat (List.replicate k x))).take ((m + k) * 3) = flat (List.replicate (m + k) x) := by
        have h := splice_take L (flat (List.replicate k x)) (m * 3) HFT.out
        rw [HLN.out, show m * 3 + k * 3 = (m + k) * 3 by omega, HT.out, ← flat_app, List.replicate_append_replicate] at h
        exact h
      have HNew := Aside0.mk hnew
      have HTake := Aside0.mk htake
      have HG5 : Aside0 (w4.heap[w.heap.size]? = some (.cells (Go.splice L (m * 3) (flat (List.replicate k x))).toArray 56 (0, 0))) := ⟨HG4.out.out⟩
      clear hnew htake HG4
      generalize Go.splice L (m * 3) (flat (List.replicate k x)) = L5 at *
      simp only [List.getElem_toArray, List.getElem_cons_succ, List.getElem_cons_zero]
      go_frame
      go_roundw
      case rel =>
        repeat apply Exists.intro
        exact ⟨⟨m + k, L5, by go_num, by omega, by omega, HG5, HNew, HTake, HB4⟩, rfl⟩
      case measure => simp [intOf]; omega
    · obtain rfl : m = n := by omega
      go_wp2_with fail
      go_ret
      have hT := HT.out
      refine ⟨_, _, rfl, Nat.le_refl _, ?_, HB.out⟩
      have := C_blk (xs := List.replicate m x) HG.out (by rw [List.length_replicate]; exact hT) (by rw [List.length_replicate]; omega)
      rwa [List.length_replicate] at this
end Ca
end Go.Proofs.Ytjpnbhcoagnpjaa
