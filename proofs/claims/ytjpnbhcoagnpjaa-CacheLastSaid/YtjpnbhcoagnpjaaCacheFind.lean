/- cache.Find: the first line that has the segment. -/
import Derived.Test.YtjpnbhcoagnpjaaCacheMay
namespace Go.Proofs.Ytjpnbhcoagnpjaa
namespace Ca
open Go.RowKit Go.Proofs.YtjpnbhcoagnpjaaW.PrintWords Go.Proofs.YtjpnbhcoagnpjaaW.PrintLast Go.Proofs.YtjpnbhcoagnpjaaW.PrintMore
open Go.Proofs.Ytjpnbhcoagnpjaa.PCacheTells
set_option linter.unusedVariables false
set_option linter.unusedSimpArgs false
def errI : Bool → Int := fun b => if b then 0 else 6
def findN : List S56 → Int → Option Nat
  | [], _ => none
  | x :: r, s => if x.f0 = s then some 0 else (findN r s).map (· + 1)
def findP (l : List S56) (s : Int) : Int × Int :=
  if mayB l then (match findN l s with | none => (0, 6) | some j => if s < 0 then (0, 6) else ((j : Int), 0)) else (0, 1)
def idxI : Option Nat → Int
  | none => -1
  | some j => j
set_option maxHeartbeats 1000000 in
theorem findfn_calls (x : S56) (g : Nat) (s : Int) (w : World) (q0 : w.cell? ⟨g, 0, none⟩ = some (.int .i64 s)) :
    Calls Try.prog 40 #[.agg #[.int .i64 x.f0, .int .i64 x.f1, .int .i64 x.f2], .pointer (some ⟨g, 0, none⟩)] w fun e w' => e = .returned (.bool (x.f0 == s)) ∧ Below w.heap.size w w' := by
  have q1 : ∀ o : Obj, (w.alloc o).cell? ⟨g, 0, none⟩ = some (.int .i64 s) := fun o => pw_cell_below (below_alloc (Below.refl _ _) _) q0
  go_enter Try.func40, Try.ntmps40
  go_wp2_with fail
  go_ret
  exact ⟨rfl, below_alloc (Below.refl _ _) _⟩
set_option maxHeartbeats 4000000 in
set_option maxRecDepth 100000 in
theorem index_calls (A0 : Option Addr) (c0 : Nat) (l0 : List S56) (s : Int) (g : Nat) (w : World) (hr0 : Kd.C k56 w A0 l0.length l0) (hc0 : l0.length ≤ c0) (hn : l0.length ≤ 1000000) (q0 : w.cell? ⟨g, 0, none⟩ = some (.int .i64 s)) :
    Calls Try.prog 39 #[.slice A0 l0.length c0, .func (Fn.func 40) #[] #[.pointer (some ⟨g, 0, none⟩)]] w fun e w' => e = .returned (.int .i64 (idxI (findN l0 s))) ∧ Below w.heap.size w w' := by
  have HR0 := Aside0.mk hr0
  have HQ0 := Aside0.mk q0
  clear hr0 q0
  go_enter Try.func39, Try.ntmps39
  go_wp2_with fail
  go_loopw [8] (fun i wr => ∃ k : Nat, k ≤ l0.length ∧ i = .int .i64 k ∧ Aside0 (idxI (findN l0 s) = match findN (l0.drop k) s with | none => -1 | some j => ((k + j : Nat) : Int)) ∧ Aside0 (Below w.heap.size w wr)) (fun i _ => l0.length - (intOf i).toNat)
  case atStart => exact ⟨0, Nat.zero_le _, rfl, ⟨by cases h : findN l0 s <;> simp [idxI, h]⟩, ⟨Below.refl _ _⟩⟩
  case round =>
    obtain ⟨k, hk, rfl, HE, HB⟩ := hrel
    by_cases hlt : k < l0.length
    · obtain ⟨ad, rfl, hx0, hx1, hx2⟩ := at_T56 (Kd.C_below HR0.out HB.out) k (by omega) (by omega)
      have q0 := pw_cell_below HB.out HQ0.out
      rw [Int.toNat_natCast] at hx0 hx1 hx2
      have he := HE.out
      rw [drop_cons hlt, findN] at he
      generalize rd_T56 l0 k = X at *
      have HE := Aside0.mk he
      clear he
      by_cases hx : X.f0 = s
      · have hxb : (X.f0 == s) = true := by simpa using hx
        have hcl := findfn_calls X g s wr q0
        rw [hxb] at hcl
        have HCL := Aside0.mk hcl
        have he := HE.out
        rw [if_pos hx] at he
        have HE := Aside0.mk he
        clear hcl he hx hxb q0
        go_wp2_with fail
        refine HCL.out.mono ?_
        rintro e w3 ⟨rfl, hb⟩
        have HB3 := Aside0.mk (below_then HB.out HB.out.size hb)
        clear hb
        go_wp2_with fail
        go_ret
        exact ⟨by rw [HE.out]; simp, HB3.out⟩
      · have hxb : (X.f0 == s) = false := by simpa using hx
        have hcl := findfn_calls X g s wr q0
        rw [hxb] at hcl
        have HCL := Aside0.mk hcl
        have he := HE.out
        rw [if_neg hx] at he
        have HE := Aside0.mk he
        clear hcl he hx hxb q0
        go_wp2_with fail
        refine HCL.out.mono ?_
        rintro e w3 ⟨rfl, hb⟩
        have HB3 := Aside0.mk (below_then HB.out HB.out.size hb)
        clear hb
        go_wp2_with fail
        go_roundw
        case rel =>
          refine ⟨k + 1, by omega, by go_num, ⟨?_⟩, HB3⟩
          rw [HE.out]
          cases findN (l0.drop (k + 1)) s
          · rfl
          · rename_i v
            show ((k + (v + 1) : Nat) : Int) = ((k + 1 + v : Nat) : Int)
            congr 1
            omega
        case measure => simp [intOf]; omega
    · go_wp2_with fail
      go_ret
      have he := HE.out
      rw [List.drop_of_length_le (by omega), findN] at he
      exact ⟨by rw [he]; rfl, HB.out⟩
set_option maxHeartbeats 4000000 in
set_option maxRecDepth 100000 in
theorem find_calls (A0 : Option Addr) (c0 : Nat) (l0 : List S56) (s : Int) (w : World) (hr0 : Kd.C k56 w A0 l0.length l0) (hc0 : l0.length ≤ c0) (hn : l0.length ≤ 1000000) (hwf : ∀ x ∈ l0, (Lit.int .i64 x.f0).wf = true) :
    Calls Try.prog 19 #[.slice A0 l0.length c0, .int .i64 s] w fun e w' => e = .returned (.tuple #[.int .i64 (findP l0 s).1, .int .i64 (findP l0 s).2]) ∧ Below w.heap.size w w' := by
  have HM := Aside0.mk (fun (W : World) (h : Kd.C k56 W A0 l0.length l0) => may_calls A0 c0 l0 W h hc0 hn hwf)
  have HR0 := Aside0.mk hr0
  clear hr0
  go_enter Try.func19, Try.ntmps19
  go_wp2_with fail
  have hnew := blk_new w (.cells #[.int .i64 s] 3)
  have HB0 : Aside0 (Below w.heap.size w (w.alloc (.cells #[.int .i64 s] 3))) := ⟨below_alloc (Below.refl _ _) _⟩
  generalize w.alloc (.cells #[.int .i64 s] 3) = wa at *
  have q0 : wa.cell? ⟨w.heap.size, 0, none⟩ = some (.int .i64 s) := blk_cell hnew 0
  clear hnew
  refine (HM.out wa (Kd.C_below HR0.out HB0.out)).mono ?_
  rintro e w1 ⟨rfl, hb⟩
  replace q0 := pw_cell_below hb q0
  have HB := Aside0.mk (below_then HB0.out HB0.out.size hb)
  clear hb HB0 HM
  cases hm : mayB l0
  · have HP : Aside0 (findP l0 s = (0, 1)) := ⟨by rw [findP, hm]; rfl⟩
    go_wp2_with fail
    go_ret2
    exact ⟨by rw [HP.out]; rfl, HB.out⟩
  · have hp : findP l0 s = (match findN l0 s with | none => (0, 6) | some j => if s < 0 then (0, 6) else ((j : Int), 0)) := by rw [findP, if_pos hm]
    have HP := Aside0.mk hp
    have HI := Aside0.mk (index_calls A0 c0 l0 s w.heap.size w1 (Kd.C_below HR0.out HB.out) hc0 hn q0)
    clear hp HR0 hm
    cases hf : findN l0 s with
    | none =>
      rw [hf] at HI HP
      have HP := Aside0.mk HP.out
      simp only [idxI] at HI
      clear hf
      go_wp2_with fail
      refine HI.out.mono ?_
      rintro e w2 ⟨rfl, hb⟩
      replace q0 := pw_cell_below hb q0
      replace HB := Aside0.mk (below_then HB.out HB.out.size hb)
      clear hb
      go_wp2_with fail
      go_ret2
      exact ⟨by rw [HP.out]; rfl, HB.out⟩
    | some j =>
      rw [hf] at HI HP
      simp only [idxI] at HI
      have HF := Aside0.mk hf
      clear hf
      by_cases hs : s < 0
      · have hp := HP.out
        simp only [if_pos hs] at hp
        have HP2 := Aside0.mk hp
        have e1 : decide (s < 0) = true := decide_eq_true hs
        clear hp hs
        go_wp2_with fail
        refine HI.out.mono ?_
        rintro e w2 ⟨rfl, hb⟩
        replace q0 := pw_cell_below hb q0
        replace HB := Aside0.mk (below_then HB.out HB.out.size hb)
        clear hb
        go_wp2_with fail
        go_ret2
        exact ⟨by rw [HP2.out]; rfl, HB.out⟩
      · have hp := HP.out
        simp only [if_neg hs] at hp
        have HP2 := Aside0.mk hp
        have e1 : decide (s < 0) = false := decide_eq_false hs
        clear hp hs
        go_wp2_with fail
        refine HI.out.mono ?_
        rintro e w2 ⟨rfl, hb⟩
        replace q0 := pw_cell_below hb q0
        replace HB := Aside0.mk (below_then HB.out HB.out.size hb)
        clear hb
        go_wp2_with fail
        go_ret2
        exact ⟨by rw [HP2.out]; rfl, HB.out⟩
end Ca
end Go.Proofs.Ytjpnbhcoagnpjaa
