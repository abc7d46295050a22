/-
  No cell of these rows narrows 'for every input' (looked for: loops, veiled, ifaces, maps, wideKeys, modest, calm, conditions, laid).
  DERIVED. THE GIVEN ROWS OF THIS SEAT. 7 by the template 'for every input the law returns true; each argument reads behind the call as it read before'; 0 by the template 'total and deterministic' (their statements: YtjpnbhcoagnpjaaTotals.lean).
  GIVEN WITH THE SEED: the statements are not yours to turn. If you find one false, say at which input.
  Laid BY PROGRAM, IN A SANDBOX (cutbox-rows.mjs): the forced cells as the released guide's own fill.sh prints them over the translation 63e4c9d834b1e09f… (all of the seat's roots in one cut). By AI agents, Wed Nov 11 2026. No macro, syntax, notation, axiom, sorry.
-/
import Derived.Test.YtjpnbhcoagnpjaaChecked
import GoSem.Claim
import GoSem.ClaimJoined
import GoSem.ClaimMapViews
import Derived.JoinedTies
import Derived.KernelRfl
namespace Go.Proofs.Ytjpnbhcoagnpjaa
/- THE CELL 'sum', in the pinned program and in every row, IS THE sha256 OF THE DUMP (.gsa) THAT YtjpnbhcoagnpjaaProg.lean LOADS. Nothing in Lean hashes anything: it is a label: what it is worth is what the hold of that sum in a sandbox is worth. -/
noncomputable def Try.pinned : Pinned := { name := "ytjpnbhcoagnpjaa", sum := "63e4c9d834b1e09f1d723705a77bc8255e58a8f6dba39f477ce4e6e89287f426", checked := Try.checked }
namespace Rows
def none {H : Type} : Left H := { results := [], args := [] }

/-- 'haymowlaw17.HeatPicks': WHATEVER THE INPUT: true; the input reads as it did. -/
def heatPicksSpec : ChangeSpec := { name := "heatPicks", fn := fun _ => fun
  | [d] => { results := [.lit (.bool true)], args := [d] }
  | _ => none }
def heatPicksRow : OpenClaim := { program := "ytjpnbhcoagnpjaa", sum := "63e4c9d834b1e09f1d723705a77bc8255e58a8f6dba39f477ce4e6e89287f426", func := "haymow/haymowlaw17.HeatPicks", spec := "heatPicks", unfollowed := true, recurses := true, apart := false }
def HeatPicksSaid : Prop := heatPicksRow.holds Try.pinned (OpenSpec.ofChange heatPicksSpec)

/-- ITS FALSE NEIGHBOUR: 'it returns false'. Refute it at one input. -/
def heatPicksWrong : ChangeSpec := { name := "heatPicks", fn := fun _ => fun
  | [d] => { results := [.lit (.bool false)], args := [d] }
  | _ => none }
def HeatPicksWrongFalsely : Prop := heatPicksRow.holds Try.pinned (OpenSpec.ofChange heatPicksWrong)

/-- 'haymowlaw17.HeatOrder': WHATEVER THE INPUT: true; the input reads as it did. -/
def heatOrderSpec : ChangeSpec := { name := "heatOrder", fn := fun _ => fun
  | [d] => { results := [.lit (.bool true)], args := [d] }
  | _ => none }
def heatOrderRow : OpenClaim := { program := "ytjpnbhcoagnpjaa", sum := "63e4c9d834b1e09f1d723705a77bc8255e58a8f6dba39f477ce4e6e89287f426", func := "haymow/haymowlaw17.HeatOrder", spec := "heatOrder", unfollowed := true, recurses := true, apart := false }
def HeatOrderSaid : Prop := heatOrderRow.holds Try.pinned (OpenSpec.ofChange heatOrderSpec)

/-- ITS FALSE NEIGHBOUR: 'it returns false'. Refute it at one input. -/
def heatOrderWrong : ChangeSpec := { name := "heatOrder", fn := fun _ => fun
  | [d] => { results := [.lit (.bool false)], args := [d] }
  | _ => none }
def HeatOrderWrongFalsely : Prop := heatOrderRow.holds Try.pinned (OpenSpec.ofChange heatOrderWrong)

/-- 'haymowlaw17.HeatMore': WHATEVER THE INPUT: true; the input reads as it did. -/
def heatMoreSpec : ChangeSpec := { name := "heatMore", fn := fun _ => fun
  | [d1, d2, d3] => { results := [.lit (.bool true)], args := [d1, d2, d3] }
  | _ => none }
def heatMoreRow : OpenClaim := { program := "ytjpnbhcoagnpjaa", sum := "63e4c9d834b1e09f1d723705a77bc8255e58a8f6dba39f477ce4e6e89287f426", func := "haymow/haymowlaw17.HeatMore", spec := "heatMore", unfollowed := true, recurses := true, apart := false }
def HeatMoreSaid : Prop := heatMoreRow.holds Try.pinned (OpenSpec.ofChange heatMoreSpec)

/-- ITS FALSE NEIGHBOUR: 'it returns false'. Refute it at one input. -/
def heatMoreWrong : ChangeSpec := { name := "heatMore", fn := fun _ => fun
  | [d1, d2, d3] => { results := [.lit (.bool false)], args := [d1, d2, d3] }
  | _ => none }
def HeatMoreWrongFalsely : Prop := heatMoreRow.holds Try.pinned (OpenSpec.ofChange heatMoreWrong)

/-- 'haymowlaw16.CacheTells': WHATEVER THE INPUT: true; the input reads as it did. -/
def cacheTellsSpec : ChangeSpec := { name := "cacheTells", fn := fun _ => fun
  | [d1, d2, d3] => { results := [.lit (.bool true)], args := [d1, d2, d3] }
  | _ => none }
def cacheTellsRow : OpenClaim := { program := "ytjpnbhcoagnpjaa", sum := "63e4c9d834b1e09f1d723705a77bc8255e58a8f6dba39f477ce4e6e89287f426", func := "haymow/haymowlaw16.CacheTells", spec := "cacheTells", unfollowed := true, recurses := true, apart := false }
def CacheTellsSaid : Prop := cacheTellsRow.holds Try.pinned (OpenSpec.ofChange cacheTellsSpec)

/-- ITS FALSE NEIGHBOUR: 'it returns false'. Refute it at one input. -/
def cacheTellsWrong : ChangeSpec := { name := "cacheTells", fn := fun _ => fun
  | [d1, d2, d3] => { results := [.lit (.bool false)], args := [d1, d2, d3] }
  | _ => none }
def CacheTellsWrongFalsely : Prop := cacheTellsRow.holds Try.pinned (OpenSpec.ofChange cacheTellsWrong)

/-- 'haymowlaw16.CacheLast': WHATEVER THE INPUT: true; the input reads as it did. -/
def cacheLastSpec : ChangeSpec := { name := "cacheLast", fn := fun _ => fun
  | [d1, d2] => { results := [.lit (.bool true)], args := [d1, d2] }
  | _ => none }
def cacheLastRow : OpenClaim := { program := "ytjpnbhcoagnpjaa", sum := "63e4c9d834b1e09f1d723705a77bc8255e58a8f6dba39f477ce4e6e89287f426", func := "haymow/haymowlaw16.CacheLast", spec := "cacheLast", unfollowed := true, recurses := true, apart := false }
def CacheLastSaid : Prop := cacheLastRow.holds Try.pinned (OpenSpec.ofChange cacheLastSpec)

/-- ITS FALSE NEIGHBOUR: 'it returns false'. Refute it at one input. -/
def cacheLastWrong : ChangeSpec := { name := "cacheLast", fn := fun _ => fun
  | [d1, d2] => { results := [.lit (.bool false)], args := [d1, d2] }
  | _ => none }
def CacheLastWrongFalsely : Prop := cacheLastRow.holds Try.pinned (OpenSpec.ofChange cacheLastWrong)

/-- 'haymowlaw16.CachePins': WHATEVER THE INPUT: true; the input reads as it did. -/
def cachePinsSpec : ChangeSpec := { name := "cachePins", fn := fun _ => fun
  | [d1, d2, d3] => { results := [.lit (.bool true)], args := [d1, d2, d3] }
  | _ => none }
def cachePinsRow : OpenClaim := { program := "ytjpnbhcoagnpjaa", sum := "63e4c9d834b1e09f1d723705a77bc8255e58a8f6dba39f477ce4e6e89287f426", func := "haymow/haymowlaw16.CachePins", spec := "cachePins", unfollowed := true, recurses := true, apart := false }
def CachePinsSaid : Prop := cachePinsRow.holds Try.pinned (OpenSpec.ofChange cachePinsSpec)

/-- ITS FALSE NEIGHBOUR: 'it returns false'. Refute it at one input. -/
def cachePinsWrong : ChangeSpec := { name := "cachePins", fn := fun _ => fun
  | [d1, d2, d3] => { results := [.lit (.bool false)], args := [d1, d2, d3] }
  | _ => none }
def CachePinsWrongFalsely : Prop := cachePinsRow.holds Try.pinned (OpenSpec.ofChange cachePinsWrong)

/-- 'haymowlaw16.CacheDrops': WHATEVER THE INPUT: true; the input reads as it did. -/
def cacheDropsSpec : ChangeSpec := { name := "cacheDrops", fn := fun _ => fun
  | [d1, d2, d3] => { results := [.lit (.bool true)], args := [d1, d2, d3] }
  | _ => none }
def cacheDropsRow : OpenClaim := { program := "ytjpnbhcoagnpjaa", sum := "63e4c9d834b1e09f1d723705a77bc8255e58a8f6dba39f477ce4e6e89287f426", func := "haymow/haymowlaw16.CacheDrops", spec := "cacheDrops", unfollowed := true, recurses := true, apart := false }
def CacheDropsSaid : Prop := cacheDropsRow.holds Try.pinned (OpenSpec.ofChange cacheDropsSpec)

/-- ITS FALSE NEIGHBOUR: 'it returns false'. Refute it at one input. -/
def cacheDropsWrong : ChangeSpec := { name := "cacheDrops", fn := fun _ => fun
  | [d1, d2, d3] => { results := [.lit (.bool false)], args := [d1, d2, d3] }
  | _ => none }
def CacheDropsWrongFalsely : Prop := cacheDropsRow.holds Try.pinned (OpenSpec.ofChange cacheDropsWrong)

/- THE SECOND FORM. 'bulk': how many values and letters a reading holds, each counted each time it is reached (what is shared counts as often as it is met; a slice's spare places count too). A statement '..UptoSaid' is the law's where the arguments, and the package variables that the reading takes, are together of bulk at most 1048576: NARROWER than '..Said'. Prove '..Said' where nothing that the law and all that it calls make is longer than what came in: it says more and counts as full. Else prove '..UptoSaid'. A law counts once. -/
mutual
def uptoBulk {H : Type} : DataW H → Nat
  | .lit (.string bytes) => bytes.length + 1
  | .lit _ => 1
  | .nil => 1
  | .ptr d => uptoBulk d + 1
  | .slice elems spare => uptoBulkAll elems + uptoBulkAll spare + 1
  | .agg parts => uptoBulkAll parts + 1
  | .iface _ d => uptoBulk d + 1
  | .map entries => uptoBulkEntries entries + 1
  | .held _ => 1
def uptoBulkAll {H : Type} : List (DataW H) → Nat
  | [] => 0
  | d :: r => uptoBulk d + uptoBulkAll r
def uptoBulkEntries {H : Type} : List (Lit × DataW H) → Nat
  | [] => 0
  | x :: r => uptoBulkEntry x + uptoBulkEntries r
def uptoBulkEntry {H : Type} : Lit × DataW H → Nat
  | (.string bytes, d) => bytes.length + uptoBulk d + 1
  | (_, d) => uptoBulk d + 1
 end
def uptoSmall : (H : Type) → List (DataW H) → Bool := fun _ ds => decide (uptoBulkAll ds ≤ 1048576)
def OpenSpec.upto (s : _root_.Go.ChangeSpec) : _root_.Go.OpenSpec := { _root_.Go.OpenSpec.ofChange s with cond := some uptoSmall }

/-- 'haymowlaw17.HeatPicks', WHERE WHAT IT READS IS OF BULK AT MOST 1048576: true; the input reads as it did. -/
def heatPicksUptoRow : OpenClaim := { program := "ytjpnbhcoagnpjaa", sum := "63e4c9d834b1e09f1d723705a77bc8255e58a8f6dba39f477ce4e6e89287f426", func := "haymow/haymowlaw17.HeatPicks", spec := "heatPicks", unfollowed := true, recurses := true, apart := false, narrowed := true }
def HeatPicksUptoSaid : Prop := heatPicksUptoRow.holds Try.pinned (OpenSpec.upto heatPicksSpec)

/-- 'haymowlaw17.HeatOrder', WHERE WHAT IT READS IS OF BULK AT MOST 1048576: true; the input reads as it did. -/
def heatOrderUptoRow : OpenClaim := { program := "ytjpnbhcoagnpjaa", sum := "63e4c9d834b1e09f1d723705a77bc8255e58a8f6dba39f477ce4e6e89287f426", func := "haymow/haymowlaw17.HeatOrder", spec := "heatOrder", unfollowed := true, recurses := true, apart := false, narrowed := true }
def HeatOrderUptoSaid : Prop := heatOrderUptoRow.holds Try.pinned (OpenSpec.upto heatOrderSpec)

/-- 'haymowlaw17.HeatMore', WHERE WHAT IT READS IS OF BULK AT MOST 1048576: true; the input reads as it did. -/
def heatMoreUptoRow : OpenClaim := { program := "ytjpnbhcoagnpjaa", sum := "63e4c9d834b1e09f1d723705a77bc8255e58a8f6dba39f477ce4e6e89287f426", func := "haymow/haymowlaw17.HeatMore", spec := "heatMore", unfollowed := true, recurses := true, apart := false, narrowed := true }
def HeatMoreUptoSaid : Prop := heatMoreUptoRow.holds Try.pinned (OpenSpec.upto heatMoreSpec)

/-- 'haymowlaw16.CacheTells', WHERE WHAT IT READS IS OF BULK AT MOST 1048576: true; the input reads as it did. -/
def cacheTellsUptoRow : OpenClaim := { program := "ytjpnbhcoagnpjaa", sum := "63e4c9d834b1e09f1d723705a77bc8255e58a8f6dba39f477ce4e6e89287f426", func := "haymow/haymowlaw16.CacheTells", spec := "cacheTells", unfollowed := true, recurses := true, apart := false, narrowed := true }
def CacheTellsUptoSaid : Prop := cacheTellsUptoRow.holds Try.pinned (OpenSpec.upto cacheTellsSpec)

/-- 'haymowlaw16.CacheLast', WHERE WHAT IT READS IS OF BULK AT MOST 1048576: true; the input reads as it did. -/
def cacheLastUptoRow : OpenClaim := { program := "ytjpnbhcoagnpjaa", sum := "63e4c9d834b1e09f1d723705a77bc8255e58a8f6dba39f477ce4e6e89287f426", func := "haymow/haymowlaw16.CacheLast", spec := "cacheLast", unfollowed := true, recurses := true, apart := false, narrowed := true }
def CacheLastUptoSaid : Prop := cacheLastUptoRow.holds Try.pinned (OpenSpec.upto cacheLastSpec)

/-- 'haymowlaw16.CachePins', WHERE WHAT IT READS IS OF BULK AT MOST 1048576: true; the input reads as it did. -/
def cachePinsUptoRow : OpenClaim := { program := "ytjpnbhcoagnpjaa", sum := "63e4c9d834b1e09f1d723705a77bc8255e58a8f6dba39f477ce4e6e89287f426", func := "haymow/haymowlaw16.CachePins", spec := "cachePins", unfollowed := true, recurses := true, apart := false, narrowed := true }
def CachePinsUptoSaid : Prop := cachePinsUptoRow.holds Try.pinned (OpenSpec.upto cachePinsSpec)

/-- 'haymowlaw16.CacheDrops', WHERE WHAT IT READS IS OF BULK AT MOST 1048576: true; the input reads as it did. -/
def cacheDropsUptoRow : OpenClaim := { program := "ytjpnbhcoagnpjaa", sum := "63e4c9d834b1e09f1d723705a77bc8255e58a8f6dba39f477ce4e6e89287f426", func := "haymow/haymowlaw16.CacheDrops", spec := "cacheDrops", unfollowed := true, recurses := true, apart := false, narrowed := true }
def CacheDropsUptoSaid : Prop := cacheDropsUptoRow.holds Try.pinned (OpenSpec.upto cacheDropsSpec)

end Rows
end Go.Proofs.Ytjpnbhcoagnpjaa
