/- CacheLast walked. -/
import Derived.Test.YtjpnbhcoagnpjaaCacheSame
import Derived.Test.YtjpnbhcoagnpjaaCacheLru
namespace Go.Proofs.Ytjpnbhcoagnpjaa
namespace Ca
open Go.RowKit Go.Proofs.YtjpnbhcoagnpjaaW.PrintWords Go.Proofs.YtjpnbhcoagnpjaaW.PrintLast Go.Proofs.YtjpnbhcoagnpjaaW.PrintMore
open Go.Proofs.Ytjpnbhcoagnpjaa.PCacheTells
set_option linter.unusedVariables false
set_option linter.unusedSimpArgs false

/-- A slice of lines whose length is known by another name. -/
theorem Rl.named {w : World} {v : Value} {xs : List S56} {n : Nat} (h : Rl w v xs) (hn : xs.length = n) : ∃ A c, v = .slice A n c ∧ n ≤ c ∧ Kd.C k56 w A n xs := by
  subst hn
  exact h.out
theorem run_len_set {P : Program} {kt et : TypeId} {w : World} (t ty : TypeId) (ht : P.underlying t = some (.map kt et)) {b n c : Nat} {S : Int → Bool} (hS : SetAt P kt et w b n S c) :
    (Builtin.len_ #[t] ty #[.map (some b)]).run P w = .ok (.int .i64 (c : Nat)) w := by
  obtain ⟨⟨D, ho, hc, _⟩⟩ := hS
  have h := ho.len (t := t) ht ty
  rw [hc] at h
  exact h
def hist (xs : List Int) (k : Nat) : List Int := ((xs.take k).map (· % 12)).reverse
theorem hist_succ {xs : List Int} {k : Nat} (h : k < xs.length) : hist xs (k + 1) = (rd xs k % 12) :: hist xs k := by
  unfold hist
  rw [List.take_succ_eq_append_getElem h, List.map_append, List.reverse_append]
  simp [rd, List.getD_eq_getElem?_getD, List.getElem?_eq_getElem h]
theorem hist_len {xs : List Int} {k : Nat} (h : k ≤ xs.length) : (hist xs k).length = k := by
  unfold hist
  rw [List.length_reverse, List.length_map, List.length_take]
  omega
theorem hist_zero (xs : List Int) : hist xs 0 = [] := by simp [hist]
theorem fin_done {n : Nat} : ∀ (t acc : List Int), ¬ acc.length < n → finL n t acc = acc
  | [], acc, _ => rfl
  | x :: t, acc, h => by rw [finL, if_neg h]
theorem wf_small {x : Int} (h0 : 0 ≤ x) (h1 : x ≤ 1000) : (Lit.int .i64 x).wf = true := by
  simp [Lit.wf, IntKind.min, IntKind.max, IntKind.signed, IntKind.bits]
  omega
theorem set_snoc (acc : List Int) (y : Int) : (fun z => decide (z = y) || decide (z ∈ acc)) = fun z => decide (z ∈ (if y ∈ acc then acc else acc ++ [y])) := by
  funext z
  by_cases hy : y ∈ acc
  · rw [if_pos hy]
    by_cases hz : z = y
    · subst hz; simp [hy]
    · simp [hz]
  · rw [if_neg hy]
    by_cases hz : z = y <;> simp [hz]
theorem len_snoc (acc : List Int) (y : Int) : (if decide (y ∈ acc) = true then acc.length else acc.length + 1) = (if y ∈ acc then acc else acc ++ [y]).length := by
  by_cases hy : y ∈ acc <;> simp [hy]
set_option maxHeartbeats 8000000 in
set_option maxRecDepth 100000 in
theorem last_try (g : Int) (A : Option Addr) (c : Nat) (xs : List Int) (w : World) (hg0 : 0 ≤ g) (hg1 : g ≤ 255) (h : ReadsInt w .u8 A xs.length xs) (hc : xs.length ≤ c) (hb : ∀ x ∈ xs, 0 ≤ x ∧ x ≤ 255) :
    Calls Try.prog 7 #[.int .u8 g, .slice A xs.length c] w fun e w' => e = .returned (.bool true) ∧ Below w.heap.size w w' := by
  obtain ⟨nn, hnn⟩ : ∃ nn : Nat, (nn : Int) = 1 + g % 6 := ⟨(1 + g % 6).toNat, by omega⟩
  have hn1 : 1 ≤ nn := by omega
  have hn6 : nn ≤ 6 := by omega
  have hlen : xs.length ≤ 9223372036854775807 := h.2.1
  have HR := Aside0.mk h
  have HBD : Aside0 (∀ k : Nat, k < xs.length → 0 ≤ rd xs k ∧ rd xs k ≤ 255) := ⟨fun k hk => hb _ (by simp [rd, List.getD_eq_getElem?_getD, List.getElem?_eq_getElem hk])⟩
  have HNW : Aside0 (∀ W : World, Calls Try.prog 25 #[.int .i64 (1 + g % 6)] W fun e w' => ∃ v, e = .returned (.tuple #[v, .int .i64 0]) ∧ Rl w' v (List.replicate nn noneL) ∧ Below W.heap.size W w') := ⟨fun W => by
    have hp : newP (1 + g % 6) = (List.replicate nn noneL, 0) := by rw [newP, if_neg (by omega), ← hnn, Int.toNat_natCast]
    have := new_calls (1 + g % 6) W
    rw [hp] at this
    exact this⟩
  have hmm := @run_makeMap Try.prog
  have hg2 : 0 ≤ g % 6 := by omega
  have hg3 : g % 6 < 6 := by omega
  have hnz : ((nn : Int) == 0) = false := by simp; omega
  have hnz2 : (nn == 0) = false := by simp; omega
  clear h hb hnn
  go_enter Try.func7, Try.ntmps7
  go_wp2_with fail
  refine (HNW.out _).mono ?_
  rintro e w1 ⟨v, rfl, hv, hb⟩
  have HB := Aside0.mk hb
  have HL0 : Aside0 (∃ l, Lru nn (hist xs 0) l ∧ Rl w1 v l) := ⟨⟨_, by rw [hist_zero]; exact Lru.start hn1 (by omega), hv⟩⟩
  obtain ⟨A1, c1, rfl, hc1, hr1⟩ := hv.named (List.length_replicate)
  clear hb hv hr1 HNW
  go_wp2_with fail
  go_loopw [5, 7] (fun v i wr => ∃ k : Nat, i = .int .i64 k ∧ k ≤ xs.length ∧ k ≤ 60 ∧ Aside0 (∃ l, Lru nn (hist xs k) l ∧ Rl wr v l) ∧ Aside0 (Below w.heap.size w wr)) (fun _ i _ => 60 - (intOf i).toNat)
  case atStart => exact ⟨0, rfl, Nat.zero_le _, Nat.zero_le _, HL0, HB⟩
  case round =>
    clear HL0
    obtain ⟨k, rfl, hk1, hk2, HL, HB⟩ := hrel
    by_cases hlt : k < xs.length ∧ k < 60
    · obtain ⟨hlt, h60⟩ := hlt
      have d1 : decide (k < xs.length) = true := decide_eq_true (by omega)
      have d2 : decide ((k : Int) < 60) = true := decide_eq_true (by omega)
      have d3 : decide (k < 60) = true := decide_eq_true (by omega)
      have H60 : Aside0 (k < xs.length ∧ k < 60) := ⟨⟨hlt, h60⟩⟩
      have hk0 : (0 : Int) ≤ (k : Int) := by omega
      have hk9 : (k : Int) < (xs.length : Int) := by omega
      obtain ⟨l, HLr, hv⟩ := HL.out
      have hln := HLr.len
      obtain ⟨A2, c2, rfl, hc2, hr2⟩ := hv.named hln
      have HR2 := Aside0.mk hr2
      have HC2 := Aside0.mk hc2
      obtain ⟨ad, rfl, hx⟩ := (HR.out.below HB.out).at_ k (by omega) (by omega)
      have hbd := HBD.out k hlt
      have hsuc := hist_succ hlt
      have hhl := hist_len (xs := xs) (k := k) (by omega)
      rw [Int.toNat_natCast] at hx
      generalize rd xs k = x at *
      obtain ⟨hx0, hx1⟩ := hbd
      have ha0 : 0 ≤ x % 12 := by omega
      have ha1 : x % 12 < 12 := by omega
      obtain ⟨l', HL', htv⟩ := HLr.round (a := x % 12) (t := (k : Int)) ha0 (wf_small ha0 (by omega)) (by rw [hhl]) (by simp [inB]; omega)
      rw [← hsuc] at HL'
      have HT := Aside0.mk (fun (W : World) (hC : Kd.C k56 W A2 nn l) => show Calls Try.prog 27 #[.slice A2 nn c2, .int .i64 (x % 12), .int .i64 k] W _ from by
        have h1 := touch_calls A2 c2 l (x % 12) k W (by rw [hln]; exact hC) (by rw [hln]; exact HC2.out) (by omega) HLr.wf
        rw [hln] at h1
        exact h1)
      have HV := Aside0.mk (fun (W : World) (hC : Kd.C k56 W A2 nn l) => show Calls Try.prog 21 #[.slice A2 nn c2] W _ from by
        have h1 := victim_calls A2 c2 l W (by rw [hln]; exact hC) (by rw [hln]; exact HC2.out) (by omega) HLr.wf
        rw [hln] at h1
        exact h1)
      have HP := Aside0.mk (fun (W : World) (v : Nat) (hC : Kd.C k56 W A2 nn l) => show Calls Try.prog 28 #[.slice A2 nn c2, .int .i64 v, .int .i64 (x % 12), .int .i64 k] W _ from by
        have h1 := put_calls A2 c2 l v (x % 12) k W (by rw [hln]; exact hC) (by rw [hln]; exact HC2.out) (by omega) HLr.wf
        rw [hln] at h1
        exact h1)
      unfold PutPost at HP
      have HL2 := Aside0.mk HL'
      generalize touchP l (x % 12) k = tp at *
      obtain ⟨tl, te⟩ := tp
      simp only at HT
      have HTV := Aside0.mk htv
      clear htv
      clear HLr hv hr2 hc2 hln hsuc hhl HL HL' hlt h60
      go_upto_region 8 with (fail)
      go_wp2_with fail
      refine (HT.out _ HR2.out).mono ?_
      rintro e w2 ⟨v2, rfl, hv2, hb⟩
      replace HB := Aside0.mk (below_then HB.out HB.out.size hb)
      replace HR2 := Aside0.mk (Kd.C_below HR2.out hb)
      have HV2 := Aside0.mk hv2
      clear hv2 hb
      go_upto_if 59 with (fail)
      go_cut [9] (fun v9 wc => Aside0 (∃ l', Lru nn (hist xs (k + 1)) l' ∧ Rl wc v9 l') ∧ Aside0 (Below w.heap.size w wc))
      case first =>
        rcases HTV.out with ht | ⟨ht, v, hvn, hvic, hput⟩
        · injection ht with e1 e2
          subst e1 e2
          clear HV HP HT
          go_wp2_with fail
          go_meet
          case rel => exact ⟨⟨⟨_, HL2.out, HV2.out⟩⟩, HB⟩
        · injection ht with e1 e2
          subst e1 e2
          have hv2 := HV.out w2 HR2.out
          rw [hvic] at hv2
          have HV3 := Aside0.mk hv2
          have HP3 := Aside0.mk (fun (W : World) (hC : Kd.C k56 W A2 nn l) => HP.out W v hC)
          rw [hput] at HP3
          clear hv2 hvn hvic hput HV HP HT HTV
          go_wp2_with fail
          refine HV3.out.mono ?_
          rintro e w3 ⟨rfl, hb⟩
          replace HB := Aside0.mk (below_then HB.out HB.out.size hb)
          replace HR2 := Aside0.mk (Kd.C_below HR2.out hb)
          clear hb HV3
          go_wp2_with fail
          refine (HP3.out _ HR2.out).mono ?_
          rintro e w4 ⟨v4, rfl, hv4, hb⟩
          replace HB := Aside0.mk (below_then HB.out HB.out.size hb)
          have HV4 := Aside0.mk hv4
          clear hb hv4 HP3
          go_wp2_with fail
          go_meet
          case rel => exact ⟨⟨⟨_, HL2.out, HV4.out⟩⟩, HB⟩
      case rest =>
        obtain ⟨HL, HB⟩ := hcut
        obtain ⟨wm, rfl⟩ : ∃ wm : World, wm = wc := ⟨_, rfl⟩
        obtain ⟨wo, rfl⟩ : ∃ wo : World, wo = wr := ⟨_, rfl⟩
        clear HTV HV HP HT HL2 HV2 HR2
        obtain ⟨l3, HL3, hv3⟩ := HL.out
        obtain ⟨A3, c3, rfl, hc3, hr3⟩ := hv3.named HL3.len
        have HLr := Aside0.mk HL3
        have HR3 := Aside0.mk hr3
        have HC3 := Aside0.mk hc3
        clear HL HL3 hv3 hc3 hr3 d1 d2 d3
        go_wp2_with fail
        obtain ⟨F, hF⟩ : ∃ F, F = finL nn (hist xs (k + 1)) [] := ⟨_, rfl⟩
        have HF := Aside0.mk hF
        have HSt : Aside0 (SetAt Try.prog 3 4 (wm.alloc (.map #[] 0)) wm.heap.size 0 (fun y => decide (y ∈ ([] : List Int))) ([] : List Int).length) := ⟨by simpa using SetAt.made wm Try.prog 3 4⟩
        clear hF hx0 hx1 ha0 ha1 hx
        go_loopw [16] (fun i wr => ∃ (q : Nat) (j : Int) (acc : List Int), i = .int .i64 j ∧ q ≤ k + 1 ∧ acc.length ≤ nn ∧ Aside0 (j = (q : Int) - 1) ∧ Aside0 (SetAt Try.prog 3 4 wr wm.heap.size (k + 1 - q) (fun y => decide (y ∈ acc)) acc.length) ∧ Aside0 (finL nn (hist xs q) acc = F) ∧ Aside0 (Below wm.heap.size wm wr)) (fun i _ => (intOf i + 1).toNat)
        case atStart => exact ⟨k + 1, k, [], rfl, Nat.le_refl _, Nat.zero_le _, ⟨by omega⟩, ⟨by simpa using HSt.out⟩, ⟨HF.out.symm⟩, ⟨below_alloc (Below.refl _ _) _⟩⟩
        case round =>
          clear HSt
          obtain ⟨q, j, acc, rfl, hq, hacc, HJ, HS, HE, HBm⟩ := hrel
          have hlen2 : (Builtin.len_ #[61] 3 #[.map (some wm.heap.size)]).run Try.prog wr = .ok (.int .i64 (acc.length : Nat)) wr := run_len_set 61 3 Try.underlying61 HS.out
          go_upto_region 20 with (fail)
          go_cut [93] (fun v93 wx => v93 = .bool (decide (0 < q) && decide (acc.length < nn)) ∧ wx = wr)
          case first =>
            by_cases h0 : 0 < q
            · have dj : decide (0 ≤ j) = true := by have := HJ.out; simp; omega
              have DQ : Aside0 (decide (0 < q) = true) := ⟨decide_eq_true h0⟩
              clear h0
              go_wp2_with fail
              go_meet
              case rel => exact ⟨by rw [DQ.out]; simp, rfl⟩
            · have dj : decide (0 ≤ j) = false := by have := HJ.out; simp; omega
              have DQ : Aside0 (decide (0 < q) = false) := ⟨decide_eq_false h0⟩
              clear h0
              go_wp2_with fail
              go_meet
              case rel => exact ⟨by rw [DQ.out]; simp, rfl⟩
          case rest =>
            obtain ⟨rfl, rfl⟩ := hcut
            clear hlen2
            cases hcnd : (decide (0 < q) && decide (acc.length < nn))
            · have hacF : acc = F := by
                rw [← HE.out]
                by_cases h0 : 0 < q
                · have h1 : ¬ acc.length < nn := fun h2 => by rw [decide_eq_true h0, decide_eq_true h2] at hcnd; cases hcnd
                  exact (fin_done _ _ h1).symm
                · obtain rfl : q = 0 := by omega
                  rw [hist_zero]
                  rfl
              subst hacF
              obtain ⟨wn, rfl⟩ : ∃ wn : World, wn = wc := ⟨_, rfl⟩
              have hrec : ∀ s : Nat, (findP l3 (s : Int)).2 = 0 ↔ (s : Int) ∈ acc := fun s => by
                rw [HF.out, fin_rec]
                exact HLr.out.found (by omega)
              have HREC := Aside0.mk hrec
              clear hcnd HE hrec HF HJ hq
              go_wp2_with fail
              go_loopw [17] (fun i wr => ∃ s : Nat, i = .int .i64 s ∧ s ≤ 12 ∧ Aside0 (Below wn.heap.size wn wr)) (fun i _ => 12 - (intOf i).toNat)
              case atStart => exact ⟨0, rfl, Nat.zero_le _, ⟨Below.refl _ _⟩⟩
              case round =>
                obtain ⟨s, rfl, hs, HBs⟩ := hrel
                by_cases hs12 : s < 12
                · have HBms := Aside0.mk (below_then HBm.out HBm.out.size HBs.out)
                  have hfc := find_calls A3 c3 l3 s wr (by rw [HLr.out.len]; exact Kd.C_below HR3.out HBms.out) (by rw [HLr.out.len]; exact HC3.out) (by rw [HLr.out.len]; omega) HLr.out.wf
                  rw [HLr.out.len] at hfc
                  have hre := HREC.out s
                  generalize findP l3 (s : Int) = fp at *
                  obtain ⟨f1, f2⟩ := fp
                  simp only at hfc hre
                  have HFC := Aside0.mk hfc
                  have HWF := Aside0.mk (wf_small (x := (s : Int)) (by omega) (by omega))
                  have ds : decide ((s : Int) < 12) = true := decide_eq_true (by omega)
                  have ds2 : decide (s < 12) = true := decide_eq_true (by omega)
                  clear hfc
                  by_cases hsF : (s : Int) ∈ acc
                  · obtain rfl : f2 = 0 := hre.2 hsF
                    have DF : Aside0 (decide ((s : Int) ∈ acc) = true) := ⟨decide_eq_true hsF⟩
                    clear hre hsF
                    go_wp2_with fail
                    refine HFC.out.mono ?_
                    rintro e w7 ⟨rfl, hb⟩
                    have hlk := run_lookup_set (w := w7) 61 Try.underlying3 Try.underlying4 Try.underlying61 (by kernel_rfl) (setat_below HS.out (below_then HBs.out HBs.out.size hb)) _ HWF.out
                    rw [DF.out] at hlk
                    replace HBs := Aside0.mk (below_then HBs.out HBs.out.size hb)
                    clear hb HFC
                    go_wp2_with fail
                    go_roundw
                    case rel => exact ⟨s + 1, by go_num, by omega, HBs⟩
                    case measure => simp [intOf]; omega
                  · have df : (f2 == 0) = false := by
                      have : ¬ f2 = 0 := fun e => hsF (hre.1 e)
                      simpa using this
                    have DF : Aside0 (decide ((s : Int) ∈ acc) = false) := ⟨decide_eq_false hsF⟩
                    clear hre hsF
                    go_wp2_with fail
                    refine HFC.out.mono ?_
                    rintro e w7 ⟨rfl, hb⟩
                    have hlk := run_lookup_set (w := w7) 61 Try.underlying3 Try.underlying4 Try.underlying61 (by kernel_rfl) (setat_below HS.out (below_then HBs.out HBs.out.size hb)) _ HWF.out
                    rw [DF.out] at hlk
                    replace HBs := Aside0.mk (below_then HBs.out HBs.out.size hb)
                    clear hb HFC
                    go_wp2_with fail
                    go_roundw
                    case rel => exact ⟨s + 1, by go_num, by omega, HBs⟩
                    case measure => simp [intOf]; omega
                · obtain rfl : s = 12 := by omega
                  have HBms := Aside0.mk (below_then HBm.out HBm.out.size HBs.out)
                  have HBw := Aside0.mk (below_then HB.out HB.out.size HBms.out)
                  have HLn : Aside0 (∃ l, Lru nn (hist xs (k + 1)) l ∧ Rl wr (.slice A3 nn c3) l) := ⟨⟨l3, HLr.out, ⟨⟨A3, c3, by rw [HLr.out.len], by rw [HLr.out.len]; exact HC3.out, by rw [HLr.out.len]; exact Kd.C_below HR3.out HBms.out⟩⟩⟩⟩
                  clear hs12
                  go_wp2_with fail
                  go_roundw
                  case rel => exact ⟨k + 1, by go_num, by have := H60.out; omega, by have := H60.out; omega, HLn, HBw⟩
                  case measure =>
                    have := H60.out
                    simp [intOf]
                    omega
            · have hcc : 0 < q ∧ acc.length < nn := by simpa using hcnd
              obtain ⟨h0, hac⟩ := hcc
              obtain ⟨r, rfl⟩ : ∃ r : Nat, q = r + 1 := ⟨q - 1, by omega⟩
              obtain rfl : j = (r : Int) := by have := HJ.out; omega
              clear hcnd h0 HJ
              have hrl : r < xs.length := by omega
              have hr0 : (0 : Int) ≤ (r : Int) := by omega
              have hr9 : (r : Int) < (xs.length : Int) := by omega
              obtain ⟨ad1, had1, hx⟩ := (HR.out.below (below_then HB.out HB.out.size HBm.out)).at_ r (by omega) (by omega)
              obtain rfl := Option.some.inj had1
              have hbd := HBD.out r hrl
              have hE := HE.out
              rw [hist_succ hrl, finL, if_pos hac] at hE
              rw [Int.toNat_natCast] at hx
              generalize rd xs r = y at *
              obtain ⟨hx0, hx1⟩ := hbd
              have ha0 : 0 ≤ y % 12 := by omega
              have ha1 : y % 12 < 12 := by omega
              have HWF := Aside0.mk (wf_small ha0 (by omega))
              have HE2 := Aside0.mk hE
              have HLA : Aside0 ((if y % 12 ∈ acc then acc else acc ++ [y % 12]).length ≤ nn) := ⟨by
                split
                · omega
                · rw [List.length_append]; simp only [List.length_cons, List.length_nil]; omega⟩
              clear hE HE had1
              go_wp2_with (at_mapUpdate; refine wpList_mapUpdate_set rfl _ _ _ 61 rfl Try.underlying3 Try.underlying4 Try.underlying61 rfl HS.out (by unfold maxLen; omega) _ rfl rfl HWF.out ?_; intro w6 HS6 HG6; rw [set_snoc, len_snoc] at HS6; replace HS6 := Aside0.mk HS6; replace HG6 := Aside0.mk HG6)
              go_roundw
              case rel =>
                refine ⟨r, (r : Int) - 1, _, by go_num, by omega, HLA.out, ⟨rfl⟩, ⟨?_⟩, HE2, ⟨HBm.out.grown HG6.out HBm.out.size (by intro q hq; injection hq with hq; omega)⟩⟩
                rw [show k + 1 - r = k + 1 - (r + 1) + 1 by omega]
                exact HS6.out
              case measure => simp [intOf]
    · obtain ⟨l, HLr, hv⟩ := HL.out
      obtain ⟨A2, c2, rfl, hc2, hr2⟩ := hv.named HLr.len
      clear HLr hv hr2 HL
      have HXB : Aside0 (∀ W : World, Below w.heap.size w W → Calls Try.prog 26 #[] W fun e w' => e = .returned (.bool true) ∧ Below w.heap.size w w') := ⟨fun W hW => (awake_calls W).mono fun e w' ⟨he, hb⟩ => ⟨he, below_then hW hW.size hb⟩⟩
      by_cases h1 : k < xs.length
      · have d1 : decide (k < xs.length) = true := decide_eq_true h1
        have d2 : decide ((k : Int) < 60) = false := decide_eq_false (by omega)
        have d3 : decide (k < 60) = false := decide_eq_false (by omega)
        clear h1 hlt
        go_wp2_with fail
        refine (HXB.out _ HB.out).mono ?_
        rintro e w9 ⟨rfl, hb⟩
        have HB9 := Aside0.mk hb
        clear hb
        go_wp2_with fail
        go_ret
        exact ⟨rfl, HB9.out⟩
      · have d1 : decide (k < xs.length) = false := decide_eq_false h1
        clear h1 hlt
        go_wp2_with fail
        refine (HXB.out _ HB.out).mono ?_
        rintro e w9 ⟨rfl, hb⟩
        have HB9 := Aside0.mk hb
        clear hb
        go_wp2_with fail
        go_ret
        exact ⟨rfl, HB9.out⟩
end Ca
end Go.Proofs.Ytjpnbhcoagnpjaa
