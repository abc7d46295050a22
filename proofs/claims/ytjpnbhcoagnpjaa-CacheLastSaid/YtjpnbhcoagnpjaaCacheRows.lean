/- Rows of lines: what reads a list. -/
import Derived.Test.YtjpnbhcoagnpjaaCacheVictim
namespace Go.Proofs.Ytjpnbhcoagnpjaa
namespace Ca
open Go.RowKit Go.Proofs.YtjpnbhcoagnpjaaW.PrintWords Go.Proofs.YtjpnbhcoagnpjaaW.PrintLast Go.Proofs.YtjpnbhcoagnpjaaW.PrintMore
open Go.Proofs.Ytjpnbhcoagnpjaa.PCacheTells
set_option linter.unusedVariables false
set_option linter.unusedSimpArgs false

def vals (x : S56) : List Value := [.int .i64 x.f0, .int .i64 x.f1, .int .i64 x.f2]
def flat (xs : List S56) : List Value := xs.flatMap vals
theorem flat_length (xs : List S56) : (flat xs).length = xs.length * 3 := by
  induction xs with
  | nil => rfl
  | cons x r ih => simp only [flat, List.flatMap_cons, List.length_append] at ih ⊢; rw [ih]; simp [vals]; omega
theorem flat_app (xs ys : List S56) : flat (xs ++ ys) = flat xs ++ flat ys := by simp [flat]
theorem flat_one (xs : List S56) : ∀ v ∈ flat xs, v.oneCell' = true := by
  intro v hv
  obtain ⟨x, _, hx⟩ := List.mem_flatMap.1 hv
  simp [vals] at hx
  rcases hx with rfl | rfl | rfl <;> rfl
theorem flat_get (xs : List S56) : ∀ (i t : Nat), i < xs.length → t < 3 → (flat xs)[i * 3 + t]? = (vals (xs.getD i z56))[t]? := by
  induction xs with
  | nil => intro i t h; simp at h
  | cons x r ih =>
    intro i t h ht
    have e : flat (x :: r) = vals x ++ flat r := rfl
    rw [e]
    cases i with
    | zero =>
      rw [Nat.zero_mul, Nat.zero_add, List.getElem?_append_left (by simpa [vals] using ht)]
      rfl
    | succ i =>
      rw [List.getElem?_append_right (by simp [vals]; omega)]
      have := ih i t (by simpa using h) ht
      simp only [vals, List.length_cons, List.length_nil] at this ⊢
      rw [show (i + 1) * 3 + t - (0 + 1 + 1 + 1) = i * 3 + t by omega, this]
      rfl
/-- A row that is read: its cells. -/
theorem C_cells {W : World} {A : Option Addr} {xs : List S56} (h : Kd.C k56 W A xs.length xs) (hn : 0 < xs.length) : ∃ ad, A = some ad ∧ ∀ j v, (flat xs)[j]? = some v → W.cell? (ad.add j) = some v := by
  obtain ⟨ad, e, hc⟩ := h.2.2 hn
  refine ⟨ad, e, fun j v hv => ?_⟩
  have hl : j < xs.length * 3 := by rw [← flat_length]; exact (List.getElem?_eq_some_iff.1 hv).1
  have hj : j = j / 3 * 3 + j % 3 := by omega
  have hq : j / 3 < xs.length := by omega
  rw [hj, flat_get xs (j / 3) (j % 3) hq (by omega), List.getD_eq_getElem?_getD, List.getElem?_eq_getElem hq] at hv
  obtain ⟨c, _, hK, hcell⟩ := hc (j / 3) _ (List.getElem?_eq_getElem hq)
  obtain rfl := k56_open hK
  have := hcell (j % 3) v hv
  rw [show j / 3 * k56.sz + j % 3 = j from (by have : k56.sz = 3 := rfl; rw [this]; omega)] at this
  exact this
/-- A block whose cells begin with a list's: a row that reads it. -/
theorem C_blk {W : World} {g : Nat} {t : TypeId} {L : List Value} {xs : List S56} (h : W.heap[g]? = some (.cells L.toArray t (0, 0))) (hx : L.take (xs.length * 3) = flat xs) (hn : xs.length ≤ 1000000) : Kd.C k56 W (some ⟨g, 0, none⟩) xs.length xs := by
  refine ⟨rfl, by omega, fun _ => ⟨_, rfl, fun j p hp => ⟨vals p, rfl, k56_mk W p, fun i u hu => ?_⟩⟩⟩
  obtain ⟨hj, rfl⟩ := List.getElem?_eq_some_iff.1 hp
  have hi : i < 3 := by have := (List.getElem?_eq_some_iff.1 hu).1; simpa [vals] using this
  have e : (⟨g, 0, none⟩ : Addr).add (j * k56.sz + i) = ⟨g, j * 3 + i, none⟩ := by
    have : k56.sz = 3 := rfl
    rw [this]
    unfold Addr.add
    split
    · rename_i h0; rw [h0]
    · simp
  rw [e, blk_cell h, List.getElem?_toArray]
  have h3 : (L.take (xs.length * 3))[j * 3 + i]? = L[j * 3 + i]? := by rw [List.getElem?_take, if_pos (by omega)]
  rw [← h3, hx, flat_get xs j i hj hi, List.getD_eq_getElem?_getD, List.getElem?_eq_getElem hj]
  exact hu
end Ca
end Go.Proofs.Ytjpnbhcoagnpjaa
