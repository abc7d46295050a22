/- The chapter's examples on the cache: awake answers true. -/
import Derived.Test.YtjpnbhcoagnpjaaCachePut
import Derived.Test.YtjpnbhcoagnpjaaCachePin
namespace Go.Proofs.Ytjpnbhcoagnpjaa
namespace Ca
open Go.RowKit Go.Proofs.YtjpnbhcoagnpjaaW.PrintWords Go.Proofs.YtjpnbhcoagnpjaaW.PrintLast Go.Proofs.YtjpnbhcoagnpjaaW.PrintMore
open Go.Proofs.Ytjpnbhcoagnpjaa.PCacheTells
set_option linter.unusedVariables false
set_option linter.unusedSimpArgs false

def aw0 : List S56 := [⟨-1, 0, 0⟩, ⟨-1, 0, 0⟩]
def aw1 : List S56 := [⟨7, 1, 0⟩, ⟨-1, 0, 0⟩]
def aw2 : List S56 := [⟨7, 1, 0⟩, ⟨9, 2, 0⟩]
def aw3 : List S56 := [⟨7, 3, 0⟩, ⟨9, 2, 0⟩]
def aw4 : List S56 := [⟨7, 3, 0⟩, ⟨9, 2, 1⟩]
theorem aw_new : newP 2 = (aw0, 0) := by rfl
theorem aw_v0 : victimP aw0 = (0, 0) := by rfl
theorem aw_p1 : putP aw0 0 7 1 = (aw1, 0) := by rfl
theorem aw_p2 : putP aw1 1 9 2 = (aw2, 0) := by rfl
theorem aw_t3 : touchP aw2 7 3 = (aw3, 0) := by rfl
theorem aw_v3 : victimP aw3 = (1, 0) := by rfl
theorem aw_p4 : pinP aw3 9 1 = (aw4, 0) := by rfl
theorem aw_v4 : victimP aw4 = (0, 0) := by rfl
theorem Rl.two {w : World} {v : Value} {x y : S56} (h : Rl w v [x, y]) : ∃ A c, v = .slice A 2 c ∧ 2 ≤ c ∧ Kd.C k56 w A 2 [x, y] := h.out
set_option maxHeartbeats 4000000 in
set_option maxRecDepth 100000 in
theorem awake_calls (w : World) : Calls Try.prog 26 #[] w fun e w' => e = .returned (.bool true) ∧ Below w.heap.size w w' := by
  have h0 := new_calls 2 w
  rw [aw_new] at h0
  have H0 := Aside0.mk h0
  clear h0
  go_enter Try.func26, Try.ntmps26
  go_wp2_with fail
  refine H0.out.mono ?_
  rintro e w1 ⟨v1, rfl, hv1, hb⟩
  obtain ⟨A1, c1, rfl, hc1, hr1⟩ := hv1.two
  have HB := Aside0.mk hb
  have HR1 := Aside0.mk hr1
  clear hv1 hb hr1 H0
  have h1 : Calls Try.prog 21 #[.slice A1 2 c1] w1 _ := victim_calls A1 c1 aw0 w1 HR1.out hc1 (by decide) (by decide)
  rw [aw_v0] at h1
  have H1 := Aside0.mk h1
  clear h1
  go_wp2_with fail
  refine H1.out.mono ?_
  rintro e w2 ⟨rfl, hb⟩
  replace HB := Aside0.mk (below_then HB.out HB.out.size hb)
  replace HR1 := Aside0.mk (Kd.C_below HR1.out hb)
  clear hb H1
  have h2 : Calls Try.prog 28 #[.slice A1 2 c1, .int .i64 0, .int .i64 7, .int .i64 1] w2 _ := put_calls A1 c1 aw0 0 7 1 w2 HR1.out hc1 (by decide) (by decide)
  unfold PutPost at h2
  rw [aw_p1] at h2
  have H2 := Aside0.mk h2
  clear h2
  go_wp2_with fail
  refine H2.out.mono ?_
  rintro e w3 ⟨v3, rfl, hv3, hb⟩
  replace HB := Aside0.mk (below_then HB.out HB.out.size hb)
  obtain ⟨A3, c3, rfl, hc3, hr3⟩ := hv3.two
  have HR3 := Aside0.mk hr3
  clear hv3 hb hr3 H2 HR1
  have h3 : Calls Try.prog 28 #[.slice A3 2 c3, .int .i64 1, .int .i64 9, .int .i64 2] w3 _ := put_calls A3 c3 aw1 1 9 2 w3 HR3.out hc3 (by decide) (by decide)
  unfold PutPost at h3
  rw [aw_p2] at h3
  have H3 := Aside0.mk h3
  clear h3
  go_wp2_with fail
  refine H3.out.mono ?_
  rintro e w4 ⟨v4, rfl, hv4, hb⟩
  replace HB := Aside0.mk (below_then HB.out HB.out.size hb)
  obtain ⟨A4, c4, rfl, hc4, hr4⟩ := hv4.two
  have HR4 := Aside0.mk hr4
  clear hv4 hb hr4 H3 HR3
  have h4 : Calls Try.prog 27 #[.slice A4 2 c4, .int .i64 7, .int .i64 3] w4 _ := touch_calls A4 c4 aw2 7 3 w4 HR4.out hc4 (by decide) (by decide)
  rw [aw_t3] at h4
  have H4 := Aside0.mk h4
  clear h4
  go_wp2_with fail
  refine H4.out.mono ?_
  rintro e w5 ⟨v5, rfl, hv5, hb⟩
  replace HB := Aside0.mk (below_then HB.out HB.out.size hb)
  obtain ⟨A5, c5, rfl, hc5, hr5⟩ := hv5.two
  have HR5 := Aside0.mk hr5
  clear hv5 hb hr5 H4 HR4
  have h5 : Calls Try.prog 21 #[.slice A5 2 c5] w5 _ := victim_calls A5 c5 aw3 w5 HR5.out hc5 (by decide) (by decide)
  rw [aw_v3] at h5
  have H5 := Aside0.mk h5
  clear h5
  go_wp2_with fail
  refine H5.out.mono ?_
  rintro e w6 ⟨rfl, hb⟩
  replace HB := Aside0.mk (below_then HB.out HB.out.size hb)
  replace HR5 := Aside0.mk (Kd.C_below HR5.out hb)
  clear hb H5
  have h6 : Calls Try.prog 29 #[.slice A5 2 c5, .int .i64 9, .int .i64 1] w6 _ := pin_calls A5 c5 aw3 9 1 w6 HR5.out hc5 (by decide) (by decide)
  unfold PinPost at h6
  rw [aw_p4] at h6
  have H6 := Aside0.mk h6
  clear h6
  go_wp2_with fail
  refine H6.out.mono ?_
  rintro e w7 ⟨v7, rfl, hv7, hb⟩
  replace HB := Aside0.mk (below_then HB.out HB.out.size hb)
  obtain ⟨A7, c7, rfl, hc7, hr7⟩ := hv7.two
  have HR7 := Aside0.mk hr7
  clear hv7 hb hr7 H6 HR5
  have h7 : Calls Try.prog 21 #[.slice A7 2 c7] w7 _ := victim_calls A7 c7 aw4 w7 HR7.out hc7 (by decide) (by decide)
  rw [aw_v4] at h7
  have H7 := Aside0.mk h7
  clear h7
  go_wp2_with fail
  refine H7.out.mono ?_
  rintro e w8 ⟨rfl, hb⟩
  replace HB := Aside0.mk (below_then HB.out HB.out.size hb)
  clear hb H7
  go_wp2_with fail
  go_ret
  exact ⟨rfl, HB.out⟩
end Ca
end Go.Proofs.Ytjpnbhcoagnpjaa
