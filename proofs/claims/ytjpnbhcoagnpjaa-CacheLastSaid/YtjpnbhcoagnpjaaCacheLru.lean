/- Least recently asked, plain: the lines hold those asked last. No program in sight. -/
import Derived.Test.YtjpnbhcoagnpjaaCachePure
namespace Go.Proofs.Ytjpnbhcoagnpjaa
namespace Ca
open Go.RowKit Go.Proofs.YtjpnbhcoagnpjaaW.PrintWords Go.Proofs.YtjpnbhcoagnpjaaW.PrintLast Go.Proofs.YtjpnbhcoagnpjaaW.PrintMore
open Go.Proofs.Ytjpnbhcoagnpjaa.PCacheTells
set_option linter.unusedVariables false
set_option linter.unusedSimpArgs false

/-- h: what was asked, the last one first. recL h: each once, the last one first. -/
def recL : List Int → List Int
  | [] => []
  | a :: h => a :: (recL h).filter (fun x => !decide (x = a))
def lastI : List Int → Int → Int
  | [], _ => -1
  | a :: h, s => if s = a then (h.length : Int) else lastI h s
def segsL (l : List S56) : List Int := (l.filter (fun x => decide (0 ≤ x.f0))).map (·.f0)

theorem lastI_lt : ∀ (h : List Int) (s : Int), lastI h s < (h.length : Int)
  | [], s => by simp [lastI]
  | a :: h, s => by
    have := lastI_lt h s
    rw [lastI]
    split <;> simp <;> omega
theorem rec_mem : ∀ (h : List Int) (x : Int), x ∈ recL h ↔ x ∈ h
  | [], x => by simp [recL]
  | a :: h, x => by
    have ih := rec_mem h x
    by_cases e : x = a <;> simp [recL, e, ih]
theorem rec_nodup : ∀ h : List Int, (recL h).Nodup
  | [] => by simp [recL]
  | a :: h => by
    rw [recL, List.nodup_cons]
    refine ⟨by simp, (rec_nodup h).sublist List.filter_sublist⟩
theorem rec_sorted : ∀ h : List Int, (recL h).Pairwise (fun x y => lastI h y < lastI h x)
  | [] => by simp [recL]
  | a :: h => by
    rw [recL, List.pairwise_cons]
    constructor
    · intro y hy
      have hne : y ≠ a := by simpa using (List.mem_filter.1 hy).2
      have := lastI_lt h y
      rw [lastI, lastI, if_neg hne, if_pos rfl]
      exact this
    · refine List.Pairwise.imp_of_mem (fun {x y} hx hy hxy => ?_) ((rec_sorted h).sublist List.filter_sublist)
      have hx : x ≠ a := by simpa using (List.mem_filter.1 hx).2
      have hy : y ≠ a := by simpa using (List.mem_filter.1 hy).2
      rw [lastI, lastI, if_neg hx, if_neg hy]
      exact hxy
theorem filter_out {R : List Int} {a : Int} (h : a ∉ R) : R.filter (fun x => !decide (x = a)) = R := by
  rw [List.filter_eq_self]
  intro x hx
  have : x ≠ a := fun e => h (e ▸ hx)
  simp [this]
theorem take_out (a : Int) : ∀ (R : List Int) (n : Nat), a ∉ R.take (n + 1) → (R.filter (fun x => !decide (x = a))).take n = R.take n
  | [], n, _ => by simp
  | b :: R, 0, _ => by simp
  | b :: R, n + 1, h => by
    simp only [List.take_succ_cons, List.mem_cons, not_or] at h
    have hb : (!decide (b = a)) = true := by simp; exact fun e => h.1 e.symm
    rw [List.filter_cons, hb, if_pos rfl, List.take_succ_cons, List.take_succ_cons, take_out a R n (by simpa using h.2)]
theorem take_in (a : Int) : ∀ (R : List Int) (n : Nat), R.Nodup → a ∈ R.take (n + 1) → List.Perm (a :: (R.filter (fun x => !decide (x = a))).take n) (R.take (n + 1))
  | [], n, _, h => by simp at h
  | b :: R, n, hd, h => by
    rw [List.nodup_cons] at hd
    by_cases e : b = a
    · subst e
      rw [List.filter_cons]
      simp only [decide_true, Bool.not_true, Bool.false_eq_true, if_false]
      rw [filter_out hd.1, List.take_succ_cons]
    · have hb : (!decide (b = a)) = true := by simpa using e
      rw [List.filter_cons, hb, if_pos rfl]
      simp only [List.take_succ_cons, List.mem_cons] at h
      have h2 : a ∈ R.take n := by
        rcases h with h | h
        · exact absurd h.symm e
        · exact h
      cases n with
      | zero => simp at h2
      | succ n =>
        have ih := take_in a R n hd.2 h2
        rw [List.take_succ_cons, List.take_succ_cons]
        exact (List.Perm.swap b a _).trans (ih.cons b)
theorem segs_cons (x : S56) (r : List S56) : segsL (x :: r) = if 0 ≤ x.f0 then x.f0 :: segsL r else segsL r := by
  unfold segsL
  rw [List.filter_cons]
  by_cases h : 0 ≤ x.f0
  · simp [h]
  · simp [h]
theorem segs_set (x : S56) (hx : 0 ≤ x.f0) : ∀ (l : List S56) (v : Nat), v < l.length →
    ((rd_T56 l v).f0 < 0 → List.Perm (segsL (l.set v x)) (x.f0 :: segsL l)) ∧ (0 ≤ (rd_T56 l v).f0 → List.Perm ((rd_T56 l v).f0 :: segsL (l.set v x)) (x.f0 :: segsL l))
  | [], v, h => by simp at h
  | z :: r, 0, h => by
    rw [rd_zero, List.set_cons_zero, segs_cons, segs_cons, if_pos hx]
    refine ⟨fun h0 => ?_, fun h0 => ?_⟩
    · rw [if_neg (by omega)]
    · rw [if_pos h0]
      exact List.Perm.swap _ _ _
  | z :: r, v + 1, h => by
    obtain ⟨h1, h2⟩ := segs_set x hx r v (by simpa using h)
    rw [rd_succ, List.set_cons_succ, segs_cons, segs_cons]
    by_cases hz : 0 ≤ z.f0
    · rw [if_pos hz, if_pos hz]
      refine ⟨fun h0 => ?_, fun h0 => ?_⟩
      · exact ((h1 h0).cons _).trans (List.Perm.swap _ _ _)
      · exact (List.Perm.swap _ _ _).trans (((h2 h0).cons _).trans (List.Perm.swap _ _ _))
    · rw [if_neg hz, if_neg hz]
      exact ⟨h1, h2⟩
theorem mem_at (l : List S56) (x : S56) : x ∈ l ↔ ∃ k : Nat, k < l.length ∧ rd_T56 l k = x := by
  rw [List.mem_iff_getElem]
  constructor
  · rintro ⟨k, hk, rfl⟩
    exact ⟨k, hk, rd_get hk⟩
  · rintro ⟨k, hk, rfl⟩
    exact ⟨k, hk, (rd_get hk).symm⟩
theorem mem_segs (l : List S56) (s : Int) : s ∈ segsL l ↔ 0 ≤ s ∧ ∃ k : Nat, k < l.length ∧ (rd_T56 l k).f0 = s := by
  unfold segsL
  rw [List.mem_map]
  constructor
  · rintro ⟨x, hx, rfl⟩
    obtain ⟨hx, h0⟩ := List.mem_filter.1 hx
    obtain ⟨k, hk, e⟩ := (mem_at l x).1 hx
    exact ⟨by simpa using h0, k, hk, by rw [e]⟩
  · rintro ⟨h0, k, hk, e⟩
    exact ⟨rd_T56 l k, List.mem_filter.2 ⟨(mem_at l _).2 ⟨k, hk, rfl⟩, by simpa [e] using h0⟩, e⟩
theorem segs_full {l : List S56} (h : ∀ k : Nat, k < l.length → 0 ≤ (rd_T56 l k).f0) : (segsL l).length = l.length := by
  unfold segsL
  rw [List.length_map, List.filter_eq_self.2]
  intro x hx
  obtain ⟨k, hk, rfl⟩ := (mem_at l x).1 hx
  simpa using h k hk
theorem segs_less {l : List S56} {k : Nat} (hk : k < l.length) (h : (rd_T56 l k).f0 < 0) : (segsL l).length < l.length := by
  unfold segsL
  rw [List.length_map, List.length_filter_lt_length_iff_exists]
  exact ⟨rd_T56 l k, (mem_at l _).2 ⟨k, hk, rfl⟩, by simp; omega⟩

structure Lru (n : Nat) (h : List Int) (l : List S56) : Prop where
  len : l.length = n
  may : MayP l
  free : ∀ i : Nat, i < n → (rd_T56 l i).f2 = 0
  tick : ∀ i : Nat, i < n → 0 ≤ (rd_T56 l i).f0 → (rd_T56 l i).f1 = lastI h (rd_T56 l i).f0
  segs : List.Perm (segsL l) ((recL h).take n)
  wf : ∀ x ∈ l, (Lit.int .i64 x.f0).wf = true
theorem Lru.start {n : Nat} (h1 : 1 ≤ n) (h2 : n ≤ 256) : Lru n [] (List.replicate n noneL) := by
  have hr : ∀ i : Nat, i < n → rd_T56 (List.replicate n noneL) i = noneL := fun i hi => by simp [rd_T56, List.getD_eq_getElem?_getD, hi]
  refine ⟨by simp, ⟨by simpa using h1, by simpa using h2, fun i hi => ?_, fun i hi h0 => ?_⟩, fun i hi => ?_, fun i hi h0 => ?_, ?_, fun x hx => ?_⟩
  · rw [hr i (by simpa using hi)]; exact noneL_ok
  · rw [hr i (by simpa using hi)] at h0; simp [noneL] at h0
  · rw [hr i hi]; rfl
  · rw [hr i hi] at h0; simp [noneL] at h0
  · have e : segsL (List.replicate n noneL) = [] := by
      cases hs : segsL (List.replicate n noneL) with
      | nil => rfl
      | cons s r =>
        have hm : s ∈ segsL (List.replicate n noneL) := by rw [hs]; simp
        obtain ⟨h0, k, hk, e⟩ := (mem_segs _ _).1 hm
        rw [hr k (by simpa using hk)] at e
        simp [noneL] at e
        omega
    rw [e]
    simp [recL]
  · rw [(List.mem_replicate.1 hx).2]; rfl
/-- Which segments are there. -/
theorem Lru.found {n : Nat} {h : List Int} {l : List S56} (H : Lru n h l) {s : Int} (hs : 0 ≤ s) : (findP l s).2 = 0 ↔ s ∈ (recL h).take n := by
  rw [← H.segs.mem_iff, mem_segs]
  constructor
  · intro h0
    rcases findP_cases l s with ⟨he, _⟩ | ⟨he, _⟩ | ⟨j, hj, _, _, _, _, hf⟩
    · rw [he] at h0; simp at h0
    · rw [he] at h0; simp at h0
    · exact ⟨hs, j, hj, hf⟩
  · rintro ⟨_, k, hk, e⟩
    rw [H.may.find hk hs e]
theorem set_wf {l : List S56} (h : ∀ x ∈ l, (Lit.int .i64 x.f0).wf = true) (j : Nat) {y : S56} (hy : (Lit.int .i64 y.f0).wf = true) : ∀ x ∈ l.set j y, (Lit.int .i64 x.f0).wf = true := fun x hx => by
  rcases List.mem_or_eq_of_mem_set hx with h1 | h1
  · exact h x h1
  · rw [h1]; exact hy
/-- A line is put whose seg a is asked now. -/
theorem Lru.turn {n : Nat} {h : List Int} {l : List S56} (H : Lru n h l) {a t : Int} {v : Nat} (hv : v < n) (ha : 0 ≤ a) (hwa : (Lit.int .i64 a).wf = true) (hti : t = (h.length : Int)) (ht : inB t 2147483647 = true)
    (hoth : ∀ k : Nat, k < n → k ≠ v → (rd_T56 l k).f0 ≠ a) (hs : List.Perm (segsL (l.set v ⟨a, t, 0⟩)) ((recL (a :: h)).take n)) : Lru n (a :: h) (l.set v ⟨a, t, 0⟩) := by
  have hvl : v < l.length := by rw [H.len]; exact hv
  have hr : ∀ k : Nat, rd_T56 (l.set v ⟨a, t, 0⟩) k = if k = v then ⟨a, t, 0⟩ else rd_T56 l k := fun k => rd_set hvl _ k
  refine ⟨by rw [List.length_set]; exact H.len, H.may.put hvl (putL_ok ha ht) (fun _ k hk hkv => hoth k (by rw [← H.len]; exact hk) hkv), fun i hi => ?_, fun i hi h0 => ?_, hs, set_wf H.wf v hwa⟩
  · rw [hr]
    split
    · rfl
    · exact H.free i hi
  · rw [hr] at h0 ⊢
    by_cases e : i = v
    · rw [if_pos e]
      simp only [lastI, if_true]
      exact hti
    · rw [if_neg e] at h0 ⊢
      rw [lastI, if_neg (hoth i hi e)]
      exact H.tick i hi h0
theorem Lru.round {n : Nat} {h : List Int} {l : List S56} (H : Lru n h l) {a t : Int} (ha : 0 ≤ a) (hwa : (Lit.int .i64 a).wf = true) (hti : t = (h.length : Int)) (ht : inB t 2147483647 = true) :
    ∃ l', Lru n (a :: h) l' ∧ (touchP l a t = (l', 0) ∨ (touchP l a t = ([], 6) ∧ ∃ v : Nat, v < n ∧ victimP l = ((v : Int), 0) ∧ putP l v a t = (l', 0))) := by
  have hn1 : 1 ≤ n := by rw [← H.len]; exact H.may.pos
  obtain ⟨n', rfl⟩ : ∃ n', n = n' + 1 := ⟨n - 1, by omega⟩
  have hmB := (mayB_iff l).2 H.may
  have htk : (recL (a :: h)).take (n' + 1) = a :: ((recL h).filter (fun x => !decide (x = a))).take n' := by rw [recL, List.take_succ_cons]
  rcases findP_cases l a with ⟨he, hb⟩ | ⟨he, _, hno⟩ | ⟨j, hj, he, _, _, hfj, hf⟩
  · rw [hmB] at hb; cases hb
  · -- it is not there
    have hnot : a ∉ (recL h).take (n' + 1) := fun hm => by
      have := (H.found ha).2 hm
      rw [he] at this
      simp at this
    have hoth : ∀ k : Nat, k < l.length → (rd_T56 l k).f0 ≠ a := by
      rcases hno with hno | hno
      · omega
      · exact (findN_none l a).1 hno
    have htouch : touchP l a t = ([], 6) := by rw [touchP, he]; simp
    have hput : ∀ v : Nat, v < l.length → putP l v a t = (l.set v ⟨a, t, 0⟩, 0) := by
      intro v hv
      have hfv := H.free v (by rw [← H.len]; exact hv)
      rw [putP, he]
      simp only
      rw [if_neg (by simp), if_neg (by omega), if_neg (by simp [ht]; omega), if_neg (by simp), hfv, if_neg (by simp), Int.toNat_natCast]
    by_cases hemp : ∃ k : Nat, k < l.length ∧ (rd_T56 l k).f0 < 0
    · obtain ⟨k, hk, hk0⟩ := hemp
      obtain ⟨v, hvk, hvic, hvn, _⟩ := victim_empty H.may hk hk0
      have hv : v < l.length := by omega
      have hR : (recL h).length < n' + 1 := by
        have h1 := segs_less hk hk0
        have h2 := H.segs.length_eq
        rw [List.length_take] at h2
        have := H.len
        omega
      have hR2 : (recL h).take (n' + 1) = recL h := List.take_of_length_le (by omega)
      rw [hR2] at hnot
      refine ⟨l.set v ⟨a, t, 0⟩, H.turn (by rw [← H.len]; exact hv) ha hwa hti ht (fun k hk _ => hoth k (by rw [H.len]; exact hk)) ?_, .inr ⟨htouch, v, by rw [← H.len]; exact hv, hvic, hput v hv⟩⟩
      rw [htk, filter_out hnot, List.take_of_length_le (by omega)]
      have h1 := (segs_set ⟨a, t, 0⟩ ha l v hv).1 (by rw [hvn]; simp [noneL])
      have h2 := H.segs
      rw [hR2] at h2
      exact h1.trans (h2.cons _)
    · have hfull : ∀ k : Nat, k < l.length → 0 ≤ (rd_T56 l k).f0 := fun k hk => by
        by_cases h0 : (rd_T56 l k).f0 < 0
        · exact absurd ⟨k, hk, h0⟩ hemp
        · omega
      have hvf := vicF_full l hfull l.length (Nat.le_refl _)
      cases hv : vicF l l.length with
      | none =>
        rw [hv] at hvf
        exact absurd (H.free 0 (by omega)) (hvf 0 (by have := H.len; omega))
      | some v =>
        rw [hv] at hvf
        obtain ⟨hvl, _, hbest⟩ := hvf
        have hvic : victimP l = ((v : Int), 0) := by rw [victimP, if_pos hmB, hv]
        refine ⟨l.set v ⟨a, t, 0⟩, H.turn (by rw [← H.len]; exact hvl) ha hwa hti ht (fun k hk _ => hoth k (by rw [H.len]; exact hk)) ?_, .inr ⟨htouch, v, by rw [← H.len]; exact hvl, hvic, hput v hvl⟩⟩
        have hlen : n' + 1 ≤ (recL h).length := by
          have h1 := segs_full hfull
          have h2 := H.segs.length_eq
          rw [List.length_take] at h2
          have := H.len
          omega
        have hz : (recL h).take (n' + 1) = (recL h).take n' ++ [(recL h)[n']'(by omega)] := by rw [List.take_succ_eq_append_getElem (by omega)]
        generalize hzz : (recL h)[n']'(by omega) = z at hz
        have hsg := H.segs
        rw [hz] at hsg
        -- the victim has z
        have hzm : z ∈ segsL l := hsg.mem_iff.2 (by simp)
        obtain ⟨_, k, hk, hkz⟩ := (mem_segs l z).1 hzm
        have hle := (hbest k hk (H.free k (by rw [← H.len]; exact hk))).1
        rw [H.tick v (by rw [← H.len]; exact hvl) (hfull v hvl), H.tick k (by rw [← H.len]; exact hk) (hfull k hk), hkz] at hle
        have hvz : (rd_T56 l v).f0 = z := by
          have hvm : (rd_T56 l v).f0 ∈ segsL l := (mem_segs l _).2 ⟨hfull v hvl, v, hvl, rfl⟩
          have hvm2 := hsg.mem_iff.1 hvm
          rw [List.mem_append, List.mem_singleton] at hvm2
          rcases hvm2 with h1 | h1
          · have hp : ((recL h).take (n' + 1)).Pairwise (fun x y => lastI h y < lastI h x) := (rec_sorted h).sublist (List.take_sublist _ _)
            rw [hz, List.pairwise_append] at hp
            have := hp.2.2 _ h1 z (by simp)
            omega
          · exact h1
        rw [htk, take_out a _ _ hnot]
        have h1 := (segs_set ⟨a, t, 0⟩ ha l v hvl).2 (hfull v hvl)
        rw [hvz] at h1
        have h2 : List.Perm (a :: segsL l) (z :: a :: (recL h).take n') := by
          refine (hsg.cons a).trans ?_
          have h3 : List.Perm ((recL h).take n' ++ [z]) (z :: (recL h).take n') := by
            exact List.perm_append_comm (l₁ := (recL h).take n') (l₂ := [z])
          exact (h3.cons a).trans (List.Perm.swap _ _ _)
        exact (h1.trans h2).cons_inv
  · -- it is there
    have hm : a ∈ (recL h).take (n' + 1) := (H.found ha).1 (by rw [he])
    have hjn : j < n' + 1 := by rw [← H.len]; exact hj
    have htouch : touchP l a t = (l.set j ⟨a, t, 0⟩, 0) := by
      rw [touchP, he]
      simp only [if_true, ht, Int.toNat_natCast]
      rw [hf, H.free j hjn]
    refine ⟨l.set j ⟨a, t, 0⟩, H.turn hjn ha hwa hti ht (fun k hk hkj => ?_) ?_, .inl htouch⟩
    · rw [← hf]
      exact H.may.ne hj (by rw [H.len]; exact hk) (Ne.symm hkj) (by omega)
    · have h1 := (segs_set ⟨a, t, 0⟩ ha l j hj).2 (by omega)
      rw [hf] at h1
      have h2 := h1.cons_inv
      rw [htk]
      exact h2.trans (H.segs.trans (take_in a _ _ (rec_nodup h) hm).symm)
/-- The look back: what has been seen, till it is enough. -/
def finL (n : Nat) : List Int → List Int → List Int
  | [], acc => acc
  | x :: t, acc => if acc.length < n then finL n t (if x ∈ acc then acc else acc ++ [x]) else acc
theorem fin_eq (n : Nat) : ∀ (t acc : List Int), acc.length ≤ n → finL n t acc = (acc ++ (recL t).filter (fun x => decide (x ∉ acc))).take n
  | [], acc, h => by simp [finL, recL, List.take_of_length_le h]
  | x :: t, acc, h => by
    rw [finL]
    by_cases hlt : acc.length < n
    · rw [if_pos hlt]
      by_cases hx : x ∈ acc
      · rw [if_pos hx, fin_eq n t acc h, recL, List.filter_cons]
        have hd : decide (x ∉ acc) = false := by simpa using hx
        rw [hd]
        simp only [Bool.false_eq_true, if_false]
        rw [List.filter_filter]
        congr 2
        apply List.filter_congr
        intro y hy
        by_cases e : y = x
        · subst e; simp [hx]
        · simp [e]
      · rw [if_neg hx, fin_eq n t (acc ++ [x]) (by simp; omega), recL, List.filter_cons]
        have hd : decide (x ∉ acc) = true := by simpa using hx
        rw [hd, if_pos rfl, List.append_assoc, List.singleton_append, List.filter_filter]
        congr 3
        apply List.filter_congr
        intro y hy
        by_cases e : y = x
        · subst e; simp
        · simp [e]
    · rw [if_neg hlt, List.take_append_of_le_length (by omega), List.take_of_length_le (by omega)]
theorem fin_rec (n : Nat) (t : List Int) : finL n t [] = (recL t).take n := by
  rw [fin_eq n t [] (by simp), List.nil_append, List.filter_eq_self.2]
  intro x _
  simp
end Ca
end Go.Proofs.Ytjpnbhcoagnpjaa
