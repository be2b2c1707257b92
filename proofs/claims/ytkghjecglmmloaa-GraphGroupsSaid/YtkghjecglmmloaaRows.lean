/-
  No cell of these rows narrows 'for every input' (looked for: loops, veiled, ifaces, maps, wideKeys, modest, calm, conditions, laid).
  DERIVED. THE GIVEN ROWS OF THIS SEAT. 11 by the template 'for every input the law returns true; each argument reads behind the call as it read before'; 0 by the template 'total and deterministic' (their statements: YtkghjecglmmloaaTotals.lean).
  GIVEN WITH THE SEED: the statements are not yours to turn. If you find one false, say at which input.
  Laid BY PROGRAM, IN A SANDBOX (cutbox-rows.mjs): the forced cells as the released guide's own fill.sh prints them over the translation 254f4296faa213db… (all of the seat's roots in one cut). By AI agents, Wed Nov 11 2026. No macro, syntax, notation, axiom, sorry.
-/
import Derived.Test.YtkghjecglmmloaaChecked
import GoSem.Claim
import GoSem.ClaimJoined
import GoSem.ClaimMapViews
import Derived.JoinedTies
import Derived.KernelRfl
namespace Go.Proofs.Ytkghjecglmmloaa
/- THE CELL 'sum', in the pinned program and in every row, IS THE sha256 OF THE DUMP (.gsa) THAT YtkghjecglmmloaaProg.lean LOADS. Nothing in Lean hashes anything: it is a label: what it is worth is what the hold of that sum in a sandbox is worth. -/
noncomputable def Try.pinned : Pinned := { name := "ytkghjecglmmloaa", sum := "254f4296faa213dbd326d0c79a51a5eb6332ebc732d9446a2f397f0173fcc194", checked := Try.checked }
namespace Rows
def none {H : Type} : Left H := { results := [], args := [] }

/-- 'ferrulelaw18.HeapPicks': WHATEVER THE INPUT: true; the input reads as it did. -/
def heapPicksSpec : ChangeSpec := { name := "heapPicks", fn := fun _ => fun
  | [d1, d2] => { results := [.lit (.bool true)], args := [d1, d2] }
  | _ => none }
def heapPicksRow : OpenClaim := { program := "ytkghjecglmmloaa", sum := "254f4296faa213dbd326d0c79a51a5eb6332ebc732d9446a2f397f0173fcc194", func := "ferrule/ferrulelaw18.HeapPicks", spec := "heapPicks", apart := false }
def HeapPicksSaid : Prop := heapPicksRow.holds Try.pinned (OpenSpec.ofChange heapPicksSpec)

/-- ITS FALSE NEIGHBOUR: 'it returns false'. Refute it at one input. -/
def heapPicksWrong : ChangeSpec := { name := "heapPicks", fn := fun _ => fun
  | [d1, d2] => { results := [.lit (.bool false)], args := [d1, d2] }
  | _ => none }
def HeapPicksWrongFalsely : Prop := heapPicksRow.holds Try.pinned (OpenSpec.ofChange heapPicksWrong)

/-- 'ferrulelaw18.HeapPlays': WHATEVER THE INPUT: true; the input reads as it did. -/
def heapPlaysSpec : ChangeSpec := { name := "heapPlays", fn := fun _ => fun
  | [d1, d2, d3] => { results := [.lit (.bool true)], args := [d1, d2, d3] }
  | _ => none }
def heapPlaysRow : OpenClaim := { program := "ytkghjecglmmloaa", sum := "254f4296faa213dbd326d0c79a51a5eb6332ebc732d9446a2f397f0173fcc194", func := "ferrule/ferrulelaw18.HeapPlays", spec := "heapPlays", apart := false }
def HeapPlaysSaid : Prop := heapPlaysRow.holds Try.pinned (OpenSpec.ofChange heapPlaysSpec)

/-- ITS FALSE NEIGHBOUR: 'it returns false'. Refute it at one input. -/
def heapPlaysWrong : ChangeSpec := { name := "heapPlays", fn := fun _ => fun
  | [d1, d2, d3] => { results := [.lit (.bool false)], args := [d1, d2, d3] }
  | _ => none }
def HeapPlaysWrongFalsely : Prop := heapPlaysRow.holds Try.pinned (OpenSpec.ofChange heapPlaysWrong)

/-- 'ferrulelaw18.HeapOrders': WHATEVER THE INPUT: true; the input reads as it did. -/
def heapOrdersSpec : ChangeSpec := { name := "heapOrders", fn := fun _ => fun
  | [d1, d2] => { results := [.lit (.bool true)], args := [d1, d2] }
  | _ => none }
def heapOrdersRow : OpenClaim := { program := "ytkghjecglmmloaa", sum := "254f4296faa213dbd326d0c79a51a5eb6332ebc732d9446a2f397f0173fcc194", func := "ferrule/ferrulelaw18.HeapOrders", spec := "heapOrders", apart := false }
def HeapOrdersSaid : Prop := heapOrdersRow.holds Try.pinned (OpenSpec.ofChange heapOrdersSpec)

/-- ITS FALSE NEIGHBOUR: 'it returns false'. Refute it at one input. -/
def heapOrdersWrong : ChangeSpec := { name := "heapOrders", fn := fun _ => fun
  | [d1, d2] => { results := [.lit (.bool false)], args := [d1, d2] }
  | _ => none }
def HeapOrdersWrongFalsely : Prop := heapOrdersRow.holds Try.pinned (OpenSpec.ofChange heapOrdersWrong)

/-- 'ferrulelaw16.TrailBacks': WHATEVER THE INPUT: true; the input reads as it did. -/
def trailBacksSpec : ChangeSpec := { name := "trailBacks", fn := fun _ => fun
  | [d1, d2, d3, d4] => { results := [.lit (.bool true)], args := [d1, d2, d3, d4] }
  | _ => none }
def trailBacksRow : OpenClaim := { program := "ytkghjecglmmloaa", sum := "254f4296faa213dbd326d0c79a51a5eb6332ebc732d9446a2f397f0173fcc194", func := "ferrule/ferrulelaw16.TrailBacks", spec := "trailBacks", apart := false }
def TrailBacksSaid : Prop := trailBacksRow.holds Try.pinned (OpenSpec.ofChange trailBacksSpec)

/-- ITS FALSE NEIGHBOUR: 'it returns false'. Refute it at one input. -/
def trailBacksWrong : ChangeSpec := { name := "trailBacks", fn := fun _ => fun
  | [d1, d2, d3, d4] => { results := [.lit (.bool false)], args := [d1, d2, d3, d4] }
  | _ => none }
def TrailBacksWrongFalsely : Prop := trailBacksRow.holds Try.pinned (OpenSpec.ofChange trailBacksWrong)

/-- 'ferrulelaw16.TrailLevels': WHATEVER THE INPUT: true; the input reads as it did. -/
def trailLevelsSpec : ChangeSpec := { name := "trailLevels", fn := fun _ => fun
  | [d1, d2] => { results := [.lit (.bool true)], args := [d1, d2] }
  | _ => none }
def trailLevelsRow : OpenClaim := { program := "ytkghjecglmmloaa", sum := "254f4296faa213dbd326d0c79a51a5eb6332ebc732d9446a2f397f0173fcc194", func := "ferrule/ferrulelaw16.TrailLevels", spec := "trailLevels", apart := false }
def TrailLevelsSaid : Prop := trailLevelsRow.holds Try.pinned (OpenSpec.ofChange trailLevelsSpec)

/-- ITS FALSE NEIGHBOUR: 'it returns false'. Refute it at one input. -/
def trailLevelsWrong : ChangeSpec := { name := "trailLevels", fn := fun _ => fun
  | [d1, d2] => { results := [.lit (.bool false)], args := [d1, d2] }
  | _ => none }
def TrailLevelsWrongFalsely : Prop := trailLevelsRow.holds Try.pinned (OpenSpec.ofChange trailLevelsWrong)

/-- 'ferrulelaw16.TrailPlays': WHATEVER THE INPUT: true; the input reads as it did. -/
def trailPlaysSpec : ChangeSpec := { name := "trailPlays", fn := fun _ => fun
  | [d1, d2, d3] => { results := [.lit (.bool true)], args := [d1, d2, d3] }
  | _ => none }
def trailPlaysRow : OpenClaim := { program := "ytkghjecglmmloaa", sum := "254f4296faa213dbd326d0c79a51a5eb6332ebc732d9446a2f397f0173fcc194", func := "ferrule/ferrulelaw16.TrailPlays", spec := "trailPlays", apart := false }
def TrailPlaysSaid : Prop := trailPlaysRow.holds Try.pinned (OpenSpec.ofChange trailPlaysSpec)

/-- ITS FALSE NEIGHBOUR: 'it returns false'. Refute it at one input. -/
def trailPlaysWrong : ChangeSpec := { name := "trailPlays", fn := fun _ => fun
  | [d1, d2, d3] => { results := [.lit (.bool false)], args := [d1, d2, d3] }
  | _ => none }
def TrailPlaysWrongFalsely : Prop := trailPlaysRow.holds Try.pinned (OpenSpec.ofChange trailPlaysWrong)

/-- 'ferrulelaw17.WatchTwice': WHATEVER THE INPUT: true; the input reads as it did. -/
def watchTwiceSpec : ChangeSpec := { name := "watchTwice", fn := fun _ => fun
  | [d1, d2, d3] => { results := [.lit (.bool true)], args := [d1, d2, d3] }
  | _ => none }
def watchTwiceRow : OpenClaim := { program := "ytkghjecglmmloaa", sum := "254f4296faa213dbd326d0c79a51a5eb6332ebc732d9446a2f397f0173fcc194", func := "ferrule/ferrulelaw17.WatchTwice", spec := "watchTwice", unfollowed := true, recurses := true, apart := false }
def WatchTwiceSaid : Prop := watchTwiceRow.holds Try.pinned (OpenSpec.ofChange watchTwiceSpec)

/-- ITS FALSE NEIGHBOUR: 'it returns false'. Refute it at one input. -/
def watchTwiceWrong : ChangeSpec := { name := "watchTwice", fn := fun _ => fun
  | [d1, d2, d3] => { results := [.lit (.bool false)], args := [d1, d2, d3] }
  | _ => none }
def WatchTwiceWrongFalsely : Prop := watchTwiceRow.holds Try.pinned (OpenSpec.ofChange watchTwiceWrong)

/-- 'ferrulelaw17.WatchPlays': WHATEVER THE INPUT: true; the input reads as it did. -/
def watchPlaysSpec : ChangeSpec := { name := "watchPlays", fn := fun _ => fun
  | [d1, d2] => { results := [.lit (.bool true)], args := [d1, d2] }
  | _ => none }
def watchPlaysRow : OpenClaim := { program := "ytkghjecglmmloaa", sum := "254f4296faa213dbd326d0c79a51a5eb6332ebc732d9446a2f397f0173fcc194", func := "ferrule/ferrulelaw17.WatchPlays", spec := "watchPlays", unfollowed := true, recurses := true, apart := false }
def WatchPlaysSaid : Prop := watchPlaysRow.holds Try.pinned (OpenSpec.ofChange watchPlaysSpec)

/-- ITS FALSE NEIGHBOUR: 'it returns false'. Refute it at one input. -/
def watchPlaysWrong : ChangeSpec := { name := "watchPlays", fn := fun _ => fun
  | [d1, d2] => { results := [.lit (.bool false)], args := [d1, d2] }
  | _ => none }
def WatchPlaysWrongFalsely : Prop := watchPlaysRow.holds Try.pinned (OpenSpec.ofChange watchPlaysWrong)

/-- 'ferrulelaw30.GraphSingles': WHATEVER THE INPUT: true; the input reads as it did. -/
def graphSinglesSpec : ChangeSpec := { name := "graphSingles", fn := fun _ => fun
  | [d] => { results := [.lit (.bool true)], args := [d] }
  | _ => none }
def graphSinglesRow : OpenClaim := { program := "ytkghjecglmmloaa", sum := "254f4296faa213dbd326d0c79a51a5eb6332ebc732d9446a2f397f0173fcc194", func := "ferrule/ferrulelaw30.GraphSingles", spec := "graphSingles", unfollowed := true, recurses := true, apart := false }
def GraphSinglesSaid : Prop := graphSinglesRow.holds Try.pinned (OpenSpec.ofChange graphSinglesSpec)

/-- ITS FALSE NEIGHBOUR: 'it returns false'. Refute it at one input. -/
def graphSinglesWrong : ChangeSpec := { name := "graphSingles", fn := fun _ => fun
  | [d] => { results := [.lit (.bool false)], args := [d] }
  | _ => none }
def GraphSinglesWrongFalsely : Prop := graphSinglesRow.holds Try.pinned (OpenSpec.ofChange graphSinglesWrong)

/-- 'ferrulelaw30.GraphOrders': WHATEVER THE INPUT: true; the input reads as it did. -/
def graphOrdersSpec : ChangeSpec := { name := "graphOrders", fn := fun _ => fun
  | [d] => { results := [.lit (.bool true)], args := [d] }
  | _ => none }
def graphOrdersRow : OpenClaim := { program := "ytkghjecglmmloaa", sum := "254f4296faa213dbd326d0c79a51a5eb6332ebc732d9446a2f397f0173fcc194", func := "ferrule/ferrulelaw30.GraphOrders", spec := "graphOrders", unfollowed := true, recurses := true, apart := false }
def GraphOrdersSaid : Prop := graphOrdersRow.holds Try.pinned (OpenSpec.ofChange graphOrdersSpec)

/-- ITS FALSE NEIGHBOUR: 'it returns false'. Refute it at one input. -/
def graphOrdersWrong : ChangeSpec := { name := "graphOrders", fn := fun _ => fun
  | [d] => { results := [.lit (.bool false)], args := [d] }
  | _ => none }
def GraphOrdersWrongFalsely : Prop := graphOrdersRow.holds Try.pinned (OpenSpec.ofChange graphOrdersWrong)

/-- 'ferrulelaw30.GraphGroups': WHATEVER THE INPUT: true; the input reads as it did. -/
def graphGroupsSpec : ChangeSpec := { name := "graphGroups", fn := fun _ => fun
  | [d1, d2] => { results := [.lit (.bool true)], args := [d1, d2] }
  | _ => none }
def graphGroupsRow : OpenClaim := { program := "ytkghjecglmmloaa", sum := "254f4296faa213dbd326d0c79a51a5eb6332ebc732d9446a2f397f0173fcc194", func := "ferrule/ferrulelaw30.GraphGroups", spec := "graphGroups", unfollowed := true, recurses := true, apart := false }
def GraphGroupsSaid : Prop := graphGroupsRow.holds Try.pinned (OpenSpec.ofChange graphGroupsSpec)

/-- ITS FALSE NEIGHBOUR: 'it returns false'. Refute it at one input. -/
def graphGroupsWrong : ChangeSpec := { name := "graphGroups", fn := fun _ => fun
  | [d1, d2] => { results := [.lit (.bool false)], args := [d1, d2] }
  | _ => none }
def GraphGroupsWrongFalsely : Prop := graphGroupsRow.holds Try.pinned (OpenSpec.ofChange graphGroupsWrong)

/- THE SECOND FORM. 'bulk': how many values and letters a reading holds, each counted each time it is reached (what is shared counts as often as it is met; a slice's spare places count too). A statement '..UptoSaid' is the law's where the arguments, and the package variables that the reading takes, are together of bulk at most 1048576: NARROWER than '..Said'. Prove '..Said' where nothing that the law and all that it calls make is longer than what came in: it says more and counts as full. Else prove '..UptoSaid'. A law counts once. -/
mutual
def uptoBulk {H : Type} : DataW H → Nat
  | .lit (.string bytes) => bytes.length + 1
  | .lit _ => 1
  | .nil => 1
  | .ptr d => uptoBulk d + 1
  | .slice elems spare => uptoBulkAll elems + uptoBulkAll spare + 1
  | .agg parts => uptoBulkAll parts + 1
  | .iface _ d => uptoBulk d + 1
  | .map entries => uptoBulkEntries entries + 1
  | .held _ => 1
def uptoBulkAll {H : Type} : List (DataW H) → Nat
  | [] => 0
  | d :: r => uptoBulk d + uptoBulkAll r
def uptoBulkEntries {H : Type} : List (Lit × DataW H) → Nat
  | [] => 0
  | x :: r => uptoBulkEntry x + uptoBulkEntries r
def uptoBulkEntry {H : Type} : Lit × DataW H → Nat
  | (.string bytes, d) => bytes.length + uptoBulk d + 1
  | (_, d) => uptoBulk d + 1
 end
def uptoSmall : (H : Type) → List (DataW H) → Bool := fun _ ds => decide (uptoBulkAll ds ≤ 1048576)
def OpenSpec.upto (s : _root_.Go.ChangeSpec) : _root_.Go.OpenSpec := { _root_.Go.OpenSpec.ofChange s with cond := some uptoSmall }

/-- 'ferrulelaw18.HeapPicks', WHERE WHAT IT READS IS OF BULK AT MOST 1048576: true; the input reads as it did. -/
def heapPicksUptoRow : OpenClaim := { program := "ytkghjecglmmloaa", sum := "254f4296faa213dbd326d0c79a51a5eb6332ebc732d9446a2f397f0173fcc194", func := "ferrule/ferrulelaw18.HeapPicks", spec := "heapPicks", apart := false, narrowed := true }
def HeapPicksUptoSaid : Prop := heapPicksUptoRow.holds Try.pinned (OpenSpec.upto heapPicksSpec)

/-- 'ferrulelaw18.HeapPlays', WHERE WHAT IT READS IS OF BULK AT MOST 1048576: true; the input reads as it did. -/
def heapPlaysUptoRow : OpenClaim := { program := "ytkghjecglmmloaa", sum := "254f4296faa213dbd326d0c79a51a5eb6332ebc732d9446a2f397f0173fcc194", func := "ferrule/ferrulelaw18.HeapPlays", spec := "heapPlays", apart := false, narrowed := true }
def HeapPlaysUptoSaid : Prop := heapPlaysUptoRow.holds Try.pinned (OpenSpec.upto heapPlaysSpec)

/-- 'ferrulelaw18.HeapOrders', WHERE WHAT IT READS IS OF BULK AT MOST 1048576: true; the input reads as it did. -/
def heapOrdersUptoRow : OpenClaim := { program := "ytkghjecglmmloaa", sum := "254f4296faa213dbd326d0c79a51a5eb6332ebc732d9446a2f397f0173fcc194", func := "ferrule/ferrulelaw18.HeapOrders", spec := "heapOrders", apart := false, narrowed := true }
def HeapOrdersUptoSaid : Prop := heapOrdersUptoRow.holds Try.pinned (OpenSpec.upto heapOrdersSpec)

/-- 'ferrulelaw16.TrailBacks', WHERE WHAT IT READS IS OF BULK AT MOST 1048576: true; the input reads as it did. -/
def trailBacksUptoRow : OpenClaim := { program := "ytkghjecglmmloaa", sum := "254f4296faa213dbd326d0c79a51a5eb6332ebc732d9446a2f397f0173fcc194", func := "ferrule/ferrulelaw16.TrailBacks", spec := "trailBacks", apart := false, narrowed := true }
def TrailBacksUptoSaid : Prop := trailBacksUptoRow.holds Try.pinned (OpenSpec.upto trailBacksSpec)

/-- 'ferrulelaw16.TrailLevels', WHERE WHAT IT READS IS OF BULK AT MOST 1048576: true; the input reads as it did. -/
def trailLevelsUptoRow : OpenClaim := { program := "ytkghjecglmmloaa", sum := "254f4296faa213dbd326d0c79a51a5eb6332ebc732d9446a2f397f0173fcc194", func := "ferrule/ferrulelaw16.TrailLevels", spec := "trailLevels", apart := false, narrowed := true }
def TrailLevelsUptoSaid : Prop := trailLevelsUptoRow.holds Try.pinned (OpenSpec.upto trailLevelsSpec)

/-- 'ferrulelaw16.TrailPlays', WHERE WHAT IT READS IS OF BULK AT MOST 1048576: true; the input reads as it did. -/
def trailPlaysUptoRow : OpenClaim := { program := "ytkghjecglmmloaa", sum := "254f4296faa213dbd326d0c79a51a5eb6332ebc732d9446a2f397f0173fcc194", func := "ferrule/ferrulelaw16.TrailPlays", spec := "trailPlays", apart := false, narrowed := true }
def TrailPlaysUptoSaid : Prop := trailPlaysUptoRow.holds Try.pinned (OpenSpec.upto trailPlaysSpec)

/-- 'ferrulelaw17.WatchTwice', WHERE WHAT IT READS IS OF BULK AT MOST 1048576: true; the input reads as it did. -/
def watchTwiceUptoRow : OpenClaim := { program := "ytkghjecglmmloaa", sum := "254f4296faa213dbd326d0c79a51a5eb6332ebc732d9446a2f397f0173fcc194", func := "ferrule/ferrulelaw17.WatchTwice", spec := "watchTwice", unfollowed := true, recurses := true, apart := false, narrowed := true }
def WatchTwiceUptoSaid : Prop := watchTwiceUptoRow.holds Try.pinned (OpenSpec.upto watchTwiceSpec)

/-- 'ferrulelaw17.WatchPlays', WHERE WHAT IT READS IS OF BULK AT MOST 1048576: true; the input reads as it did. -/
def watchPlaysUptoRow : OpenClaim := { program := "ytkghjecglmmloaa", sum := "254f4296faa213dbd326d0c79a51a5eb6332ebc732d9446a2f397f0173fcc194", func := "ferrule/ferrulelaw17.WatchPlays", spec := "watchPlays", unfollowed := true, recurses := true, apart := false, narrowed := true }
def WatchPlaysUptoSaid : Prop := watchPlaysUptoRow.holds Try.pinned (OpenSpec.upto watchPlaysSpec)

/-- 'ferrulelaw30.GraphSingles', WHERE WHAT IT READS IS OF BULK AT MOST 1048576: true; the input reads as it did. -/
def graphSinglesUptoRow : OpenClaim := { program := "ytkghjecglmmloaa", sum := "254f4296faa213dbd326d0c79a51a5eb6332ebc732d9446a2f397f0173fcc194", func := "ferrule/ferrulelaw30.GraphSingles", spec := "graphSingles", unfollowed := true, recurses := true, apart := false, narrowed := true }
def GraphSinglesUptoSaid : Prop := graphSinglesUptoRow.holds Try.pinned (OpenSpec.upto graphSinglesSpec)

/-- 'ferrulelaw30.GraphOrders', WHERE WHAT IT READS IS OF BULK AT MOST 1048576: true; the input reads as it did. -/
def graphOrdersUptoRow : OpenClaim := { program := "ytkghjecglmmloaa", sum := "254f4296faa213dbd326d0c79a51a5eb6332ebc732d9446a2f397f0173fcc194", func := "ferrule/ferrulelaw30.GraphOrders", spec := "graphOrders", unfollowed := true, recurses := true, apart := false, narrowed := true }
def GraphOrdersUptoSaid : Prop := graphOrdersUptoRow.holds Try.pinned (OpenSpec.upto graphOrdersSpec)

/-- 'ferrulelaw30.GraphGroups', WHERE WHAT IT READS IS OF BULK AT MOST 1048576: true; the input reads as it did. -/
def graphGroupsUptoRow : OpenClaim := { program := "ytkghjecglmmloaa", sum := "254f4296faa213dbd326d0c79a51a5eb6332ebc732d9446a2f397f0173fcc194", func := "ferrule/ferrulelaw30.GraphGroups", spec := "graphGroups", unfollowed := true, recurses := true, apart := false, narrowed := true }
def GraphGroupsUptoSaid : Prop := graphGroupsUptoRow.holds Try.pinned (OpenSpec.upto graphGroupsSpec)

end Rows
end Go.Proofs.Ytkghjecglmmloaa
