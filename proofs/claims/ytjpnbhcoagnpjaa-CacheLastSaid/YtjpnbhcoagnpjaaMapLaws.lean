/- Laws on a map[int]bool that a call has made: it reads as a set of ints. -/
import Derived.Maps.OwnSet
import Derived.Maps.OwnOps
import Derived.OwnWalk
set_option linter.unusedVariables false
namespace Go.Proofs.Ytjpnbhcoagnpjaa
open Go.Maps (Keyed)

/-- Block b of w is a map[int]bool of at most n entries; S tells which keys are true. -/
structure SetAt (P : Program) (kt et : TypeId) (w : World) (b n : Nat) (S : Int → Bool) (c : Nat) : Prop where
  mk :: (out : ∃ D : DataW Unit, w.ownsMap P kt (plainElem P et) b n D ∧ Maps.size D = c ∧ (∀ x : Int, (Lit.int .i64 x).wf = true → D.atKey (.int .i64 x) (.lit (.bool false)) = .lit (.bool (S x))) ∧
    (∀ x : Int, Maps.has D (.int .i64 x) = S x))

section
variable {P : Program} {kt et : TypeId} {w : World} {b n c : Nat} {S : Int → Bool}
theorem SetAt.lt (h : SetAt P kt et w b n S c) : b < w.heap.size := by
  obtain ⟨⟨D, ho, _⟩⟩ := h
  exact ho.lt
theorem SetAt.made (w : World) (P : Program) (kt et : TypeId) : SetAt P kt et (w.alloc (.map #[] 0)) w.heap.size 0 (fun _ => false) 0 :=
  ⟨⟨.map [], World.ownsMap_made w P kt _, rfl, fun _ _ => rfl, fun _ => rfl⟩⟩
theorem SetAt.kept {w' : World} {row : Option Nat} (h : SetAt P kt et w b n S c) (hg : w.grownBy w' row) (hne : some b ≠ row) : SetAt P kt et w' b n S c := by
  obtain ⟨⟨D, ho, h2⟩⟩ := h
  exact ⟨⟨D, ho.kept hg hne, h2⟩⟩
theorem SetAt.move {w' : World} (h : SetAt P kt et w b n S c) (hm : w'.heap[b]? = w.heap[b]?) : SetAt P kt et w' b n S c := by
  obtain ⟨⟨D, ⟨es, clock, hb, r⟩, h2⟩⟩ := h
  exact ⟨⟨D, ⟨es, clock, hm.trans hb, r⟩, h2⟩⟩
theorem SetAt.alloc (h : SetAt P kt et w b n S c) (o : Obj) : SetAt P kt et (w.alloc o) b n S c := h.kept (World.grownBy_alloc w o none) (by simp)
theorem SetAt.mono (h : SetAt P kt et w b n S c) {n' : Nat} (hn : n ≤ n') : SetAt P kt et w b n' S c := by
  obtain ⟨⟨D, ho, h2⟩⟩ := h
  exact ⟨⟨D, ho.mono hn, h2⟩⟩
end

theorem plainElem_bool_inv {H : Type} {P : Program} {e : TypeId} (he : P.underlying e = some .bool) {v : Value} {z : DataW H × List MemPlace} (h : plainElem P e v = some z) : ∃ a, v = .bool a ∧ z = (.lit (.bool a), []) := by
  unfold plainElem at h
  rw [he] at h
  cases v <;> simp at h
  subst h
  exact ⟨_, rfl, rfl⟩

section
variable {P : Program} {kt et : TypeId} {ops : Array Oper} {rest : List Oper} {o : Oper} {a : Act} {Q : Exit → Act → World → Prop}
theorem run_lookup_set {w : World} (t : TypeId) (hk : P.underlying kt = some (.int .i64)) (he : P.underlying et = some .bool) (ht : P.underlying t = some (.map kt et)) (hz : (zeroValue et).run P w = .ok (.bool false) w)
    {b n c : Nat} {S : Int → Bool} (hS : SetAt P kt et w b n S c) (x : Int) (hx : (Lit.int .i64 x).wf = true) :
    (Instr.lookup t (.map (some b)) (.int .i64 x) false).run P w = .ok (.bool (S x)) w := by
  obtain ⟨⟨D, ho, _, hat, _⟩⟩ := hS
  obtain ⟨v, ps, hrun, hv⟩ := ho.lookup (Maps.int_keyed hk) ht hz (plainElem_bool he false) (Maps.keyOf_int_mk hk hx)
  obtain ⟨u, rfl, hu⟩ := plainElem_bool_inv he hv
  rw [hat x hx] at hu
  simp only [Prod.mk.injEq, DataW.lit.injEq, Lit.bool.injEq] at hu
  rw [hu.1]
  exact hrun
theorem run_update_set {w : World} (t : TypeId) (hk : P.underlying kt = some (.int .i64)) (he : P.underlying et = some .bool) (ht : P.underlying t = some (.map kt et))
    {b n c : Nat} {S : Int → Bool} (hS : SetAt P kt et w b n S c) (hn : n < maxLen) (x : Int) (hx : (Lit.int .i64 x).wf = true) :
    ∃ w', (Instr.mapUpdate t (.map (some b)) (.int .i64 x) (.bool true)).run P w = .ok () w' ∧ SetAt P kt et w' b (n + 1) (fun y => decide (y = x) || S y) (if S x then c else c + 1) ∧ w.grownBy w' (some b) := by
  obtain ⟨⟨D, ho, hc, hat, hhas⟩⟩ := hS
  have hkl : keyOf P kt (.int .i64 x) = some (.int .i64 x) := Maps.keyOf_int_mk hk hx
  have hIs : WideAt.IsKeyLit (.int .i64 x) := ((Maps.int_keyed hk).key hkl)
  obtain ⟨w', hrun, ho', hg⟩ := ho.update (Maps.int_keyed hk) ht hn hkl (plainElem_bool he true)
  refine ⟨w', hrun, ⟨⟨_, ho', ?_, ?_, ?_⟩⟩, hg⟩
  · rw [Maps.size_put (ho.tidy (Maps.int_keyed hk)), hhas, hc]
  · intro y hy
    by_cases e : y = x
    · subst e
      rw [Maps.atKey_put_same ho.isMap hIs]
      simp
    · rw [Maps.atKey_put_other (by simpa using e), hat y hy]
      simp [e]
  · intro y
    by_cases e : y = x
    · subst e
      rw [Maps.has_put_same ho.isMap hIs]
      simp
    · rw [Maps.has_put_other (by simpa using e), hhas]
      simp [e]
/-- 'm[x] = true', at the operation. -/
theorem wpList_mapUpdate_set {w : World} (hg : o.guard = none) (m x v : Operand) (t : TypeId) (hop : o.op = Op.mapUpdate t m x v)
    (hk : P.underlying kt = some (.int .i64)) (he : P.underlying et = some .bool) (ht : P.underlying t = some (.map kt et)) {b n c : Nat} {S : Int → Bool} (hm : a.eval m = .map (some b)) (hS : SetAt P kt et w b n S c) (hn : n < maxLen)
    (y : Int) (hx : a.eval x = .int .i64 y) (hv : a.eval v = .bool true) (hwf : (Lit.int .i64 y).wf = true)
    (hK : ∀ w', SetAt P kt et w' b (n + 1) (fun z => decide (z = y) || S z) (if S y then c else c + 1) → w.grownBy w' (some b) → wpList P ops Q rest (a.put o.dst undef) w') :
    wpList P ops Q (o :: rest) a w := by
  refine wpList_plain hg fun K' hK' => ?_
  obtain ⟨w', hrun, r1, r2⟩ := run_update_set t hk he ht hS hn y hwf
  unfold Oper.wp
  simp [execOp, hop, hm, hx, hv, hrun, Result.andThen]
  exact hK' _ _ (hK w' r1 r2)
end
end Go.Proofs.Ytjpnbhcoagnpjaa
