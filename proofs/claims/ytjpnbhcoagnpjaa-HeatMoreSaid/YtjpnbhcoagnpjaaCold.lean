/- heat.Cold computes which files are cold, in order. -/
import Derived.Test.YtjpnbhcoagnpjaaHeapE
namespace Go.Proofs.Ytjpnbhcoagnpjaa
open Go.RowKit Go.Proofs.YtjpnbhcoagnpjaaW.PrintWords Go.Proofs.YtjpnbhcoagnpjaaW.PrintLast Go.Proofs.YtjpnbhcoagnpjaaW.PrintMore
open Go.Proofs.Ytjpnbhcoagnpjaa.PHeatPicks
set_option linter.unusedVariables false
set_option linter.unusedSimpArgs false

def isCold (now age : Int) (x : S35) : Bool := decide (0 < x.f2) && decide (age ≤ now - x.f1)
def coldB (l : List S35) (now age : Int) : Bool := mayR l (fun _ => false) && inB now 2147483647 && inB age 2147483647
def coldL (l : List S35) (now age : Int) : List S35 := if coldB l now age then HeapPure.sortL ahd (l.filter (isCold now age)) else []
def errN (b : Bool) : Int := if b then 0 else 1
def ColdPost (w : World) (l : List S35) (now age : Int) (e : Ending) (w' : World) : Prop :=
  ∃ v, e = .returned (.tuple #[v, .int .i64 (errN (coldB l now age))]) ∧ w'.ownsRow w.heap.size 35 3 v (coldL l now age).length (flat (coldL l now age)) ∧ Below w.heap.size w w'

theorem mayR_ok : ∀ (l : List S35) (S : Int → Bool), mayR l S = true → ∀ x ∈ l, okH x = true
  | [], _, _, x, hx => by simp at hx
  | y :: r, S, h, x, hx => by
    simp only [mayR, Bool.and_eq_true] at h
    rcases List.mem_cons.1 hx with rfl | hx
    · exact h.1.1
    · exact mayR_ok r _ h.2 x hx
theorem mayR_at {l : List S35} {S : Int → Bool} (h : mayR l S = true) {k : Nat} (hk : k < l.length) : 0 ≤ (rd_T35 l k).f1 ∧ (rd_T35 l k).f1 ≤ 2147483647 ∧ 0 ≤ (rd_T35 l k).f2 ∧ (rd_T35 l k).f2 ≤ 2147483647 := by
  have := mayR_ok l S h (rd_T35 l k) (by simp [rd_T35, List.getD_eq_getElem?_getD, List.getElem?_eq_getElem hk])
  simp only [okH, Bool.and_eq_true, decide_eq_true_eq] at this
  omega

theorem pushes_length : ∀ (l xs : List S35), (l.foldl (HeapPure.hpush z35 ahd) xs).length = l.length + xs.length
  | [], xs => by simp
  | x :: r, xs => by rw [List.foldl_cons, pushes_length r, HeapPure.hpush_length, List.length_cons]; omega
def pushed (l : List S35) (now age : Int) (k : Nat) : List S35 := ((l.take k).filter (isCold now age)).foldl (HeapPure.hpush z35 ahd) []
theorem pushed_length (l : List S35) (now age : Int) (k : Nat) : (pushed l now age k).length ≤ k := by
  rw [pushed, pushes_length]
  have h1 := List.length_filter_le (isCold now age) (l.take k)
  have h2 := List.length_take_le k l
  simp only [List.length_nil]
  omega
theorem take_snoc {l : List S35} {k : Nat} (h : k < l.length) : l.take (k + 1) = l.take k ++ [rd_T35 l k] := by
  rw [List.take_succ_eq_append_getElem h]
  simp [rd_T35, List.getD_eq_getElem?_getD, List.getElem?_eq_getElem h]
theorem pushed_yes {l : List S35} {now age : Int} {k : Nat} (h : k < l.length) (hc : isCold now age (rd_T35 l k) = true) : pushed l now age (k + 1) = HeapPure.hpush z35 ahd (pushed l now age k) (rd_T35 l k) := by
  rw [pushed, take_snoc h, List.filter_append, List.foldl_append]
  simp [hc, pushed]
theorem pushed_no {l : List S35} {now age : Int} {k : Nat} (h : k < l.length) (hc : isCold now age (rd_T35 l k) = false) : pushed l now age (k + 1) = pushed l now age k := by
  rw [pushed, take_snoc h, List.filter_append, List.foldl_append]
  simp [hc, pushed]
theorem ahd_ord : HeapPure.Ord ahd := by
  refine ⟨fun a => ?_, fun a b c => ?_, fun a b => ?_⟩
  · simp [ahd]
  · intro h1 h2
    simp only [ahd] at h1 h2 ⊢
    repeat' split at h1
    all_goals repeat' split at h2
    all_goals repeat' split
    all_goals simp only [decide_eq_true_eq] at *
    all_goals omega
  · intro h1 h2
    cases a
    cases b
    simp only [ahd] at h1 h2
    repeat' split at h1
    all_goals repeat' split at h2
    all_goals simp only [decide_eq_false_iff_not, S35.mk.injEq] at *
    all_goals omega
/-- What was there when w was, stays. -/
def old (w : World) : Fr := ⟨w, fun i => i < w.heap.size, fun _ h => h⟩
/-- All but the queue stays. -/
def Fq (wr : World) (qa : Nat) (u : Value) : Fr := ⟨wr, fun i => i < wr.heap.size ∧ i ≠ qa ∧ some i ≠ u.ownBlock, fun _ h => h.1⟩
theorem Fr.Ok.old {w wr : World} (h : (old w).Ok wr) : Below w.heap.size w wr := ⟨h.os, h.tape, h.output, h.size, h.block⟩
theorem Ok_old {w wr : World} (h : Below w.heap.size w wr) : (old w).Ok wr := ⟨h.os, h.tape, h.output, h.size, h.block⟩
/-- What was taken out lies in a row of its own beside the queue. -/
structure Two (w wr : World) (qa : Nat) (v : Value) (out xs : List S35) (u : Value) : Prop where
  row : wr.ownsRow w.heap.size 35 3 v out.length (flat out)
  own : wr.ownsRow 0 35 3 u xs.length (flat xs)
  blk : wr.heap[qa]? = some (.cells #[u] 70 (0, 0))
  lo : w.heap.size ≤ qa
  hi : ∀ k, u.ownBlock = some k → w.heap.size ≤ k
  ne : ∀ k, u.ownBlock = some k → v.ownBlock ≠ some k
  old : Below w.heap.size w wr
theorem Two.start {w wr : World} {qa : Nat} {xs : List S35} (h : HQ (Ytjpnbhcoagnpjaa.old w) wr qa xs) : ∃ u, Two w wr qa (.slice none 0 0) [] xs u := by
  obtain ⟨⟨u, ho, hq, hl, hB⟩⟩ := h
  exact ⟨u, ⟨rfl, .inl ⟨rfl, rfl⟩⟩, ho, hq, Nat.le_of_not_lt hl.1, fun k hk => Nat.le_of_not_lt (hl.2 k hk), fun k hk e => by simp [Value.ownBlock] at e, hB.old⟩
theorem Two.queue {w wr : World} {qa : Nat} {v u : Value} {out xs : List S35} (h : Two w wr qa v out xs u) : HQ (Fq wr qa u) wr qa xs :=
  ⟨⟨u, h.own, h.blk, ⟨fun h => h.2.1 rfl, fun k hk h => h.2.2 hk.symm⟩, ⟨rfl, rfl, rfl, Nat.le_refl _, fun _ _ => rfl⟩⟩⟩
theorem Two.popped {w wr w2 : World} {qa : Nat} {v u : Value} {out xs ys : List S35} (h : Two w wr qa v out xs u) (h2 : HQ (Fq wr qa u) w2 qa ys) : ∃ u2, Two w w2 qa v out ys u2 := by
  obtain ⟨⟨u2, ho, hq, hl, hB⟩⟩ := h2
  have hp : ∀ k, v.ownBlock = some k → (Fq wr qa u).prot k := by
    intro k hk
    refine ⟨own_lt h.row k hk, fun e => ?_, fun e => h.ne k e.symm hk⟩
    subst e
    exact own_ne h.row h.blk hk.symm
  have hlow : ∀ k, ¬ (Fq wr qa u).prot k → w.heap.size ≤ k := by
    intro k hk
    refine Nat.le_of_not_lt fun hlt => hk ⟨Nat.lt_of_lt_of_le hlt h.old.size, fun e => ?_, fun e => ?_⟩
    · have := h.lo
      omega
    · have := h.hi k e.symm
      omega
  refine ⟨u2, own_move h.row (fun k hk => hB.block k (hp k hk)), ho, hq, h.lo, fun k hk => hlow k (hl.2 k hk), fun k hk e => hl.2 k hk (hp k e), ?_⟩
  refine ⟨hB.os.trans h.old.os, hB.tape.trans h.old.tape, hB.output.trans h.old.output, Nat.le_trans h.old.size hB.size, fun i hi => ?_⟩
  refine (hB.block i ?_).trans (h.old.block i hi)
  refine Classical.byContradiction fun hn => ?_
  have := hlow i hn
  omega
theorem Two.appended {w w2 w3 : World} {qa : Nat} {v u v3 : Value} {out xs : List S35} {x : S35} (h : Two w w2 qa v out xs u) (hown : w3.ownsRow w.heap.size 35 3 v3 (out.length + 1) (flat out ++ vals x)) (hb : Below w.heap.size w w3) (hg : w2.grownBy w3 v.ownBlock)
    (hat : v3.ownBlock = v.ownBlock ∨ ∃ b, v3.ownBlock = some b ∧ w2.heap.size ≤ b) : Two w w3 qa v3 (out ++ [x]) xs u := by
  have hu : ∀ k, u.ownBlock = some k → some k ≠ v.ownBlock := fun k hk e => h.ne k hk e.symm
  refine ⟨by rw [List.length_append, flat_app]; exact hown, own_move h.own (fun k hk => hg.block k (own_lt h.own k hk) (hu k hk)), blk_grown h.blk hg (own_ne h.row h.blk), h.lo, h.hi, fun k hk e => ?_, hb⟩
  rcases hat with hat | ⟨b, hat, hle⟩
  · exact hu k hk (hat ▸ e.symm)
  · rw [hat] at e
    injection e with e
    have := own_lt h.own k hk
    omega
theorem popAll_cons (xs : List S35) (h0 : xs.length ≠ 0) : HeapPure.popAll z35 ahd xs.length xs = (HeapPure.hdown z35 ahd xs).getD (xs.length - 1) z35 :: HeapPure.popAll z35 ahd ((HeapPure.hdown z35 ahd xs).take (xs.length - 1)).length ((HeapPure.hdown z35 ahd xs).take (xs.length - 1)) := by
  obtain ⟨n, hn⟩ : ∃ n, xs.length = n + 1 := ⟨xs.length - 1, by omega⟩
  have hl : ((HeapPure.hdown z35 ahd xs).take (xs.length - 1)).length = n := by rw [List.length_take, HeapPure.hdown_length]; omega
  rw [hl]
  conv => lhs; rw [hn]
  rw [HeapPure.popAll, if_neg h0]
theorem HQ_new {w w1 : World} (h : Below w.heap.size w w1) : HQ (old w) ((w1.alloc (.cells #[] 35)).alloc (.cells #[.slice (some ⟨w1.heap.size, 0, none⟩) 0 0] 70)) (w1.heap.size + 1) [] := by
  have hb1 := blk_new w1 (.cells #[] 35)
  have hb2 := blk_new (w1.alloc (.cells #[] 35)) (.cells #[.slice (some ⟨w1.heap.size, 0, none⟩) 0 0] 70)
  have hs : (w1.alloc (.cells #[] 35)).heap.size = w1.heap.size + 1 := by simp
  rw [hs] at hb2
  have hz := h.size
  refine ⟨⟨_, ⟨rfl, .inr ⟨w1.heap.size, 0, #[], rfl, Nat.zero_le _, blk_alloc hb1 _, Nat.le_refl _, by unfold maxLen; omega, rfl, rfl⟩⟩, hb2, ⟨fun h => ?_, fun k hk h => ?_⟩, Ok_old (below_alloc (below_alloc h _) _)⟩⟩
  · have : w1.heap.size + 1 < w.heap.size := h
    omega
  · have : k < w.heap.size := h
    simp [Value.ownBlock] at hk
    omega

set_option maxHeartbeats 4000000 in
theorem cold_yes (A0 : Option Addr) (c0 : Nat) (l0 : List S35) (now age : Int) (w : World) (hr0 : Kd.C k35 w A0 l0.length l0) (hc0 : l0.length ≤ c0) (hn : l0.length ≤ 1000)
    (hm : mayR l0 (fun _ => false) = true) (h1 : inB now 2147483647 = true) (h2 : inB age 2147483647 = true) :
    Calls Try.prog 17 #[.slice A0 l0.length c0, .int .i64 now, .int .i64 age] w (ColdPost w l0 now age) := by
  have HR0 := Aside0.mk hr0
  have HM := Aside0.mk hm
  have hb : 0 ≤ now ∧ now ≤ 2147483647 ∧ 0 ≤ age ∧ age ≤ 2147483647 := by simp [inB] at h1 h2; omega
  obtain ⟨hb1, hb2, hb3, hb4⟩ := hb
  have H1 := Aside0.mk h1
  have H2 := Aside0.mk h2
  clear hr0 hm
  go_enter Try.func17, Try.ntmps17
  go_wp2_with fail
  refine (may_calls A0 c0 l0 w HR0.out hc0 (by omega)).mono ?_
  rw [HM.out]
  rintro e w1 ⟨rfl, hb⟩
  have HB := Aside0.mk hb
  clear hb
  go_wp2_with fail
  refine (in_calls _ _ _).mono ?_
  rw [H1.out]
  rintro e w' ⟨rfl, rfl⟩
  go_wp2_with fail
  refine (in_calls _ _ _).mono ?_
  rw [H2.out]
  rintro e w' ⟨rfl, rfl⟩
  clear h1 h2
  go_wp2_with fail
  go_loopw [29] (fun i wr => ∃ k : Nat, k ≤ l0.length ∧ i = .int .i64 k ∧ Aside0 (HQ (old w) wr (w1.heap.size + 1) (pushed l0 now age k))) (fun i _ => l0.length - (intOf i).toNat)
  case atStart => exact ⟨0, Nat.zero_le _, rfl, ⟨HQ_new HB.out⟩⟩
  case round =>
    obtain ⟨k, hk, rfl, HK⟩ := hrel
    have hwr : Below w.heap.size w wr := by obtain ⟨⟨v, _, _, _, h⟩⟩ := HK.out; exact h.old
    have HW := Aside0.mk hwr
    clear hwr
    by_cases hlt : k < l0.length
    · have hbx := mayR_at HM.out hlt
      have hpl := pushed_length l0 now age k
      obtain ⟨ad, rfl, hx0, hx1, hx2⟩ := at_T35 HR0.out k (by omega) (by omega)
      replace hx0 := (HW.out.cell (World.block_lt_of_cell? w _ hx0)).trans hx0
      replace hx1 := (HW.out.cell (World.block_lt_of_cell? w _ hx1)).trans hx1
      replace hx2 := (HW.out.cell (World.block_lt_of_cell? w _ hx2)).trans hx2
      rw [Int.toNat_natCast] at hx0 hx1 hx2
      have hyes := pushed_yes (now := now) (age := age) hlt
      have hno := pushed_no (now := now) (age := age) hlt
      generalize rd_T35 l0 k = x at *
      have HY := Aside0.mk hyes
      have HN := Aside0.mk hno
      clear hyes hno
      obtain ⟨hbx1, hbx2, hbx3, hbx4⟩ := hbx
      by_cases hp : 0 < x.f2
      · by_cases ha : age ≤ now - x.f1
        · go_wp2_with fail
          refine (hpush_calls (old w) _ x _ _ (HK.out.below (below_alloc (Below.refl _ _) _)) (by omega)).mono ?_
          rintro e w3 ⟨rfl, h3⟩
          rw [← HY.out (by simp [isCold, hp, ha])] at h3
          have H3 := Aside0.mk h3
          clear h3
          go_wp2_with fail
          go_roundw
          case rel => exact ⟨k + 1, by omega, by go_num, H3⟩
          case measure => simp [intOf]; omega
        · go_wp2_with fail
          go_roundw
          case rel => exact ⟨k + 1, by omega, by go_num, ⟨(HN.out (by simp [isCold, ha])) ▸ (HK.out.below (below_alloc (Below.refl _ _) _))⟩⟩
          case measure => simp [intOf]; omega
      · go_wp2_with fail
        go_roundw
        case rel => exact ⟨k + 1, by omega, by go_num, ⟨(HN.out (by simp [isCold, hp])) ▸ (HK.out.below (below_alloc (Below.refl _ _) _))⟩⟩
        case measure => simp [intOf]; omega
    · go_wp2_with fail
      have hk' : k = l0.length := by omega
      subst hk'
      have hfin : HeapPure.popAll z35 ahd (pushed l0 now age l0.length).length (pushed l0 now age l0.length) = coldL l0 now age := by
        have hcb : coldB l0 now age = true := by rw [coldB, HM.out, H1.out, H2.out]; rfl
        rw [coldL, hcb, if_pos rfl, pushed, List.take_length]
        exact HeapPure.heapsort ahd_ord _ _ (by rw [pushes_length]; simp)
      have hpl := pushed_length l0 now age l0.length
      obtain ⟨u0, hu0⟩ := Two.start HK.out
      have HF := Aside0.mk hfin
      have HU0 := Aside0.mk hu0
      clear hfin hu0
      obtain ⟨wo, rfl⟩ : ∃ wo : World, wo = wr := ⟨_, rfl⟩
      go_loopg [11] (pushed l0 now age l0.length).length (fun gk v wx => ∃ (out xs : List S35) (u : Value), Aside0 (Two w wx (w1.heap.size + 1) v out xs u) ∧ out.length + xs.length ≤ 1000 ∧ xs.length ≤ gk ∧ Aside0 (out ++ HeapPure.popAll z35 ahd xs.length xs = coldL l0 now age))
      case atStart => exact ⟨[], _, u0, HU0, by simp; omega, Nat.le_refl _, ⟨by rw [List.nil_append]; exact HF.out⟩⟩
      case round =>
        obtain ⟨out, xs, u, HT, hol, hgk, HE⟩ := hrel
        obtain ⟨A, c, rfl⟩ := own_slice HT.out.own
        have hc : wr.cell? ⟨w1.heap.size + 1, 0, none⟩ = some (.slice A xs.length c) := blk_cell HT.out.blk 0
        go_wp2_with fail
        refine (len_calls A _ c wr).mono ?_
        rintro e w' ⟨rfl, rfl⟩
        by_cases h0 : xs.length = 0
        · go_wp2_with fail
          go_ret2
          have he := HE.out
          have hx : xs = [] := List.eq_nil_of_length_eq_zero h0
          subst hx
          rw [show HeapPure.popAll z35 ahd ([] : List S35).length [] = [] from rfl, List.append_nil] at he
          have hcb : coldB l0 now age = true := by rw [coldB, HM.out, H1.out, H2.out]; rfl
          exact ⟨u11, by rw [hcb]; rfl, he ▸ HT.out.row, HT.out.old⟩
        · have h0b : decide (0 < (xs.length : Int)) = true := by simp; omega
          obtain ⟨y, hy⟩ : ∃ y, y = (HeapPure.hdown z35 ahd xs).getD (xs.length - 1) z35 := ⟨_, rfl⟩
          have hta : ∀ W : World, (Instr.typeAssert (.iface 35 (.agg #[.int .i64 y.f0, .int .i64 y.f1, .int .i64 y.f2])) 20 35 false).run Try.prog W = .ok (.agg #[.int .i64 y.f0, .int .i64 y.f1, .int .i64 y.f2]) W := fun _ => by kernel_rfl
          have hcall := hpop_calls (Fq wr (w1.heap.size + 1) (.slice A xs.length c)) xs _ wr HT.out.queue h0 (by omega)
          rw [← hy] at hcall
          have HY := Aside0.mk hy
          have HC := Aside0.mk hcall
          clear hy hcall
          go_wp2_with fail
          refine HC.out.mono ?_
          clear HC
          rintro e w2 ⟨rfl, h2⟩
          obtain ⟨u2, hT2⟩ := HT.out.popped h2
          have HT2 := Aside0.mk hT2
          clear h2 hT2
          have hlen : ((HeapPure.hdown z35 ahd xs).take (xs.length - 1)).length = xs.length - 1 := by rw [List.length_take, HeapPure.hdown_length]; omega
          have HL := Aside0.mk hlen
          clear hlen
          go_wp2_with (at_builtin; refine print_append_cells (w0 := w) w.heap.size rfl (.tmp 55) (.tmp 60) 22 35 _ 3 24 rfl Try.underlying22 info35 rfl (by decide) (by decide) u11 out.length (flat out) (vals y) rfl rfl rfl (vals_one y) HT2.out.row HT2.out.old HT2.out.old.size (by omega) ?_; intro v3 w3 hown3 hb3 hg3 hat3; have HT3 := Aside0.mk (HT2.out.appended hown3 hb3 hg3 hat3); clear hown3 hb3 hg3 hat3)
          go_roundg (xs.length - 1)
          case measure => omega
          case rel =>
            have he := HE.out
            rw [popAll_cons xs h0, ← HY.out] at he
            refine ⟨out ++ [y], _, u2, HT3, by rw [HL.out]; simp; omega, by rw [HL.out]; exact Nat.le_refl _, ⟨?_⟩⟩
            rw [← he, List.append_assoc]
            rfl
end Go.Proofs.Ytjpnbhcoagnpjaa
