/-
  No cell of these rows narrows 'for every input' (looked for: loops, veiled, ifaces, maps, wideKeys, modest, calm, conditions, laid).
  DERIVED. THE GIVEN ROWS OF THIS SEAT. 8 by the template 'for every input the law returns true; each argument reads behind the call as it read before'; 0 by the template 'total and deterministic' (their statements: YtkghjecglmmloaaGreatTotals.lean).
  GIVEN WITH THE SEED: the statements are not yours to turn. If you find one false, say at which input.
  Laid BY PROGRAM, IN A SANDBOX (cutbox-rows.mjs): the forced cells as the released guide's own fill.sh prints them over the translation 2c3630f680352d7a… (all of the seat's roots in one cut). By AI agents, Wed Nov 11 2026. No macro, syntax, notation, axiom, sorry.
-/
import Derived.Test.YtkghjecglmmloaaGreatChecked
import GoSem.Claim
import GoSem.ClaimJoined
import GoSem.ClaimMapViews
import Derived.JoinedTies
import Derived.KernelRfl
namespace Go.Proofs.YtkghjecglmmloaaGreat
/- THE CELL 'sum', in the pinned program and in every row, IS THE sha256 OF THE DUMP (.gsa) THAT YtkghjecglmmloaaGreatProg.lean LOADS. Nothing in Lean hashes anything: it is a label: what it is worth is what the hold of that sum in a sandbox is worth. -/
noncomputable def Tryz.pinned : Pinned := { name := "ytkghjecglmmloaagreat", sum := "2c3630f680352d7a443b68c810c23ece42ffc84b1e2c5712f130849ba3d18db0", checked := Tryz.checked }
namespace Rows
def none {H : Type} : Left H := { results := [], args := [] }

/-- 'ferrulelaw19.LearnHolds': WHATEVER THE INPUT: true; the input reads as it did. -/
def learnHoldsSpec : ChangeSpec := { name := "learnHolds", fn := fun _ => fun
  | [d1, d2, d3] => { results := [.lit (.bool true)], args := [d1, d2, d3] }
  | _ => none }
def learnHoldsRow : OpenClaim := { program := "ytkghjecglmmloaagreat", sum := "2c3630f680352d7a443b68c810c23ece42ffc84b1e2c5712f130849ba3d18db0", func := "ferrule/ferrulelaw19.LearnHolds", spec := "learnHolds", unfollowed := true, recurses := true, apart := false }
def LearnHoldsSaid : Prop := learnHoldsRow.holds Tryz.pinned (OpenSpec.ofChange learnHoldsSpec)

/-- ITS FALSE NEIGHBOUR: 'it returns false'. Refute it at one input. -/
def learnHoldsWrong : ChangeSpec := { name := "learnHolds", fn := fun _ => fun
  | [d1, d2, d3] => { results := [.lit (.bool false)], args := [d1, d2, d3] }
  | _ => none }
def LearnHoldsWrongFalsely : Prop := learnHoldsRow.holds Tryz.pinned (OpenSpec.ofChange learnHoldsWrong)

/-- 'ferrulelaw19.LearnTells': WHATEVER THE INPUT: true; the input reads as it did. -/
def learnTellsSpec : ChangeSpec := { name := "learnTells", fn := fun _ => fun
  | [d1, d2, d3, d4] => { results := [.lit (.bool true)], args := [d1, d2, d3, d4] }
  | _ => none }
def learnTellsRow : OpenClaim := { program := "ytkghjecglmmloaagreat", sum := "2c3630f680352d7a443b68c810c23ece42ffc84b1e2c5712f130849ba3d18db0", func := "ferrule/ferrulelaw19.LearnTells", spec := "learnTells", unfollowed := true, recurses := true, apart := false }
def LearnTellsSaid : Prop := learnTellsRow.holds Tryz.pinned (OpenSpec.ofChange learnTellsSpec)

/-- ITS FALSE NEIGHBOUR: 'it returns false'. Refute it at one input. -/
def learnTellsWrong : ChangeSpec := { name := "learnTells", fn := fun _ => fun
  | [d1, d2, d3, d4] => { results := [.lit (.bool false)], args := [d1, d2, d3, d4] }
  | _ => none }
def LearnTellsWrongFalsely : Prop := learnTellsRow.holds Tryz.pinned (OpenSpec.ofChange learnTellsWrong)

/-- 'ferrulelaw21.CdclTells': WHATEVER THE INPUT: true; the input reads as it did. -/
def cdclTellsSpec : ChangeSpec := { name := "cdclTells", fn := fun _ => fun
  | [d1, d2, d3, d4] => { results := [.lit (.bool true)], args := [d1, d2, d3, d4] }
  | _ => none }
def cdclTellsRow : OpenClaim := { program := "ytkghjecglmmloaagreat", sum := "2c3630f680352d7a443b68c810c23ece42ffc84b1e2c5712f130849ba3d18db0", func := "ferrule/ferrulelaw21.CdclTells", spec := "cdclTells", unfollowed := true, recurses := true, apart := false }
def CdclTellsSaid : Prop := cdclTellsRow.holds Tryz.pinned (OpenSpec.ofChange cdclTellsSpec)

/-- ITS FALSE NEIGHBOUR: 'it returns false'. Refute it at one input. -/
def cdclTellsWrong : ChangeSpec := { name := "cdclTells", fn := fun _ => fun
  | [d1, d2, d3, d4] => { results := [.lit (.bool false)], args := [d1, d2, d3, d4] }
  | _ => none }
def CdclTellsWrongFalsely : Prop := cdclTellsRow.holds Tryz.pinned (OpenSpec.ofChange cdclTellsWrong)

/-- 'ferrulelaw21.CdclEnds': WHATEVER THE INPUT: true; the input reads as it did. -/
def cdclEndsSpec : ChangeSpec := { name := "cdclEnds", fn := fun _ => fun
  | [d1, d2, d3, d4, d5] => { results := [.lit (.bool true)], args := [d1, d2, d3, d4, d5] }
  | _ => none }
def cdclEndsRow : OpenClaim := { program := "ytkghjecglmmloaagreat", sum := "2c3630f680352d7a443b68c810c23ece42ffc84b1e2c5712f130849ba3d18db0", func := "ferrule/ferrulelaw21.CdclEnds", spec := "cdclEnds", unfollowed := true, recurses := true, apart := false }
def CdclEndsSaid : Prop := cdclEndsRow.holds Tryz.pinned (OpenSpec.ofChange cdclEndsSpec)

/-- ITS FALSE NEIGHBOUR: 'it returns false'. Refute it at one input. -/
def cdclEndsWrong : ChangeSpec := { name := "cdclEnds", fn := fun _ => fun
  | [d1, d2, d3, d4, d5] => { results := [.lit (.bool false)], args := [d1, d2, d3, d4, d5] }
  | _ => none }
def CdclEndsWrongFalsely : Prop := cdclEndsRow.holds Tryz.pinned (OpenSpec.ofChange cdclEndsWrong)

/-- 'ferrulelaw21.CdclLearns': WHATEVER THE INPUT: true; the input reads as it did. -/
def cdclLearnsSpec : ChangeSpec := { name := "cdclLearns", fn := fun _ => fun
  | [d1, d2, d3, d4] => { results := [.lit (.bool true)], args := [d1, d2, d3, d4] }
  | _ => none }
def cdclLearnsRow : OpenClaim := { program := "ytkghjecglmmloaagreat", sum := "2c3630f680352d7a443b68c810c23ece42ffc84b1e2c5712f130849ba3d18db0", func := "ferrule/ferrulelaw21.CdclLearns", spec := "cdclLearns", unfollowed := true, recurses := true, apart := false }
def CdclLearnsSaid : Prop := cdclLearnsRow.holds Tryz.pinned (OpenSpec.ofChange cdclLearnsSpec)

/-- ITS FALSE NEIGHBOUR: 'it returns false'. Refute it at one input. -/
def cdclLearnsWrong : ChangeSpec := { name := "cdclLearns", fn := fun _ => fun
  | [d1, d2, d3, d4] => { results := [.lit (.bool false)], args := [d1, d2, d3, d4] }
  | _ => none }
def CdclLearnsWrongFalsely : Prop := cdclLearnsRow.holds Tryz.pinned (OpenSpec.ofChange cdclLearnsWrong)

/-- 'ferrulelaw25.LazyTells': WHATEVER THE INPUT: true; the input reads as it did. -/
def lazyTellsSpec : ChangeSpec := { name := "lazyTells", fn := fun _ => fun
  | [d1, d2, d3, d4] => { results := [.lit (.bool true)], args := [d1, d2, d3, d4] }
  | _ => none }
def lazyTellsRow : OpenClaim := { program := "ytkghjecglmmloaagreat", sum := "2c3630f680352d7a443b68c810c23ece42ffc84b1e2c5712f130849ba3d18db0", func := "ferrule/ferrulelaw25.LazyTells", spec := "lazyTells", unfollowed := true, recurses := true, apart := false }
def LazyTellsSaid : Prop := lazyTellsRow.holds Tryz.pinned (OpenSpec.ofChange lazyTellsSpec)

/-- ITS FALSE NEIGHBOUR: 'it returns false'. Refute it at one input. -/
def lazyTellsWrong : ChangeSpec := { name := "lazyTells", fn := fun _ => fun
  | [d1, d2, d3, d4] => { results := [.lit (.bool false)], args := [d1, d2, d3, d4] }
  | _ => none }
def LazyTellsWrongFalsely : Prop := lazyTellsRow.holds Tryz.pinned (OpenSpec.ofChange lazyTellsWrong)

/-- 'ferrulelaw25.LazyEnds': WHATEVER THE INPUT: true; the input reads as it did. -/
def lazyEndsSpec : ChangeSpec := { name := "lazyEnds", fn := fun _ => fun
  | [d1, d2, d3, d4, d5] => { results := [.lit (.bool true)], args := [d1, d2, d3, d4, d5] }
  | _ => none }
def lazyEndsRow : OpenClaim := { program := "ytkghjecglmmloaagreat", sum := "2c3630f680352d7a443b68c810c23ece42ffc84b1e2c5712f130849ba3d18db0", func := "ferrule/ferrulelaw25.LazyEnds", spec := "lazyEnds", unfollowed := true, recurses := true, apart := false }
def LazyEndsSaid : Prop := lazyEndsRow.holds Tryz.pinned (OpenSpec.ofChange lazyEndsSpec)

/-- ITS FALSE NEIGHBOUR: 'it returns false'. Refute it at one input. -/
def lazyEndsWrong : ChangeSpec := { name := "lazyEnds", fn := fun _ => fun
  | [d1, d2, d3, d4, d5] => { results := [.lit (.bool false)], args := [d1, d2, d3, d4, d5] }
  | _ => none }
def LazyEndsWrongFalsely : Prop := lazyEndsRow.holds Tryz.pinned (OpenSpec.ofChange lazyEndsWrong)

/-- 'ferrulelaw25.LazyProves': WHATEVER THE INPUT: true; the input reads as it did. -/
def lazyProvesSpec : ChangeSpec := { name := "lazyProves", fn := fun _ => fun
  | [d1, d2, d3, d4] => { results := [.lit (.bool true)], args := [d1, d2, d3, d4] }
  | _ => none }
def lazyProvesRow : OpenClaim := { program := "ytkghjecglmmloaagreat", sum := "2c3630f680352d7a443b68c810c23ece42ffc84b1e2c5712f130849ba3d18db0", func := "ferrule/ferrulelaw25.LazyProves", spec := "lazyProves", unfollowed := true, recurses := true, apart := false }
def LazyProvesSaid : Prop := lazyProvesRow.holds Tryz.pinned (OpenSpec.ofChange lazyProvesSpec)

/-- ITS FALSE NEIGHBOUR: 'it returns false'. Refute it at one input. -/
def lazyProvesWrong : ChangeSpec := { name := "lazyProves", fn := fun _ => fun
  | [d1, d2, d3, d4] => { results := [.lit (.bool false)], args := [d1, d2, d3, d4] }
  | _ => none }
def LazyProvesWrongFalsely : Prop := lazyProvesRow.holds Tryz.pinned (OpenSpec.ofChange lazyProvesWrong)

/- THE SECOND FORM. 'bulk': how many values and letters a reading holds, each counted each time it is reached (what is shared counts as often as it is met; a slice's spare places count too). A statement '..UptoSaid' is the law's where the arguments, and the package variables that the reading takes, are together of bulk at most 1048576: NARROWER than '..Said'. Prove '..Said' where nothing that the law and all that it calls make is longer than what came in: it says more and counts as full. Else prove '..UptoSaid'. A law counts once. -/
mutual
def uptoBulk {H : Type} : DataW H → Nat
  | .lit (.string bytes) => bytes.length + 1
  | .lit _ => 1
  | .nil => 1
  | .ptr d => uptoBulk d + 1
  | .slice elems spare => uptoBulkAll elems + uptoBulkAll spare + 1
  | .agg parts => uptoBulkAll parts + 1
  | .iface _ d => uptoBulk d + 1
  | .map entries => uptoBulkEntries entries + 1
  | .held _ => 1
def uptoBulkAll {H : Type} : List (DataW H) → Nat
  | [] => 0
  | d :: r => uptoBulk d + uptoBulkAll r
def uptoBulkEntries {H : Type} : List (Lit × DataW H) → Nat
  | [] => 0
  | x :: r => uptoBulkEntry x + uptoBulkEntries r
def uptoBulkEntry {H : Type} : Lit × DataW H → Nat
  | (.string bytes, d) => bytes.length + uptoBulk d + 1
  | (_, d) => uptoBulk d + 1
 end
def uptoSmall : (H : Type) → List (DataW H) → Bool := fun _ ds => decide (uptoBulkAll ds ≤ 1048576)
def OpenSpec.upto (s : _root_.Go.ChangeSpec) : _root_.Go.OpenSpec := { _root_.Go.OpenSpec.ofChange s with cond := some uptoSmall }

/-- 'ferrulelaw19.LearnHolds', WHERE WHAT IT READS IS OF BULK AT MOST 1048576: true; the input reads as it did. -/
def learnHoldsUptoRow : OpenClaim := { program := "ytkghjecglmmloaagreat", sum := "2c3630f680352d7a443b68c810c23ece42ffc84b1e2c5712f130849ba3d18db0", func := "ferrule/ferrulelaw19.LearnHolds", spec := "learnHolds", unfollowed := true, recurses := true, apart := false, narrowed := true }
def LearnHoldsUptoSaid : Prop := learnHoldsUptoRow.holds Tryz.pinned (OpenSpec.upto learnHoldsSpec)

/-- 'ferrulelaw19.LearnTells', WHERE WHAT IT READS IS OF BULK AT MOST 1048576: true; the input reads as it did. -/
def learnTellsUptoRow : OpenClaim := { program := "ytkghjecglmmloaagreat", sum := "2c3630f680352d7a443b68c810c23ece42ffc84b1e2c5712f130849ba3d18db0", func := "ferrule/ferrulelaw19.LearnTells", spec := "learnTells", unfollowed := true, recurses := true, apart := false, narrowed := true }
def LearnTellsUptoSaid : Prop := learnTellsUptoRow.holds Tryz.pinned (OpenSpec.upto learnTellsSpec)

/-- 'ferrulelaw21.CdclTells', WHERE WHAT IT READS IS OF BULK AT MOST 1048576: true; the input reads as it did. -/
def cdclTellsUptoRow : OpenClaim := { program := "ytkghjecglmmloaagreat", sum := "2c3630f680352d7a443b68c810c23ece42ffc84b1e2c5712f130849ba3d18db0", func := "ferrule/ferrulelaw21.CdclTells", spec := "cdclTells", unfollowed := true, recurses := true, apart := false, narrowed := true }
def CdclTellsUptoSaid : Prop := cdclTellsUptoRow.holds Tryz.pinned (OpenSpec.upto cdclTellsSpec)

/-- 'ferrulelaw21.CdclEnds', WHERE WHAT IT READS IS OF BULK AT MOST 1048576: true; the input reads as it did. -/
def cdclEndsUptoRow : OpenClaim := { program := "ytkghjecglmmloaagreat", sum := "2c3630f680352d7a443b68c810c23ece42ffc84b1e2c5712f130849ba3d18db0", func := "ferrule/ferrulelaw21.CdclEnds", spec := "cdclEnds", unfollowed := true, recurses := true, apart := false, narrowed := true }
def CdclEndsUptoSaid : Prop := cdclEndsUptoRow.holds Tryz.pinned (OpenSpec.upto cdclEndsSpec)

/-- 'ferrulelaw21.CdclLearns', WHERE WHAT IT READS IS OF BULK AT MOST 1048576: true; the input reads as it did. -/
def cdclLearnsUptoRow : OpenClaim := { program := "ytkghjecglmmloaagreat", sum := "2c3630f680352d7a443b68c810c23ece42ffc84b1e2c5712f130849ba3d18db0", func := "ferrule/ferrulelaw21.CdclLearns", spec := "cdclLearns", unfollowed := true, recurses := true, apart := false, narrowed := true }
def CdclLearnsUptoSaid : Prop := cdclLearnsUptoRow.holds Tryz.pinned (OpenSpec.upto cdclLearnsSpec)

/-- 'ferrulelaw25.LazyTells', WHERE WHAT IT READS IS OF BULK AT MOST 1048576: true; the input reads as it did. -/
def lazyTellsUptoRow : OpenClaim := { program := "ytkghjecglmmloaagreat", sum := "2c3630f680352d7a443b68c810c23ece42ffc84b1e2c5712f130849ba3d18db0", func := "ferrule/ferrulelaw25.LazyTells", spec := "lazyTells", unfollowed := true, recurses := true, apart := false, narrowed := true }
def LazyTellsUptoSaid : Prop := lazyTellsUptoRow.holds Tryz.pinned (OpenSpec.upto lazyTellsSpec)

/-- 'ferrulelaw25.LazyEnds', WHERE WHAT IT READS IS OF BULK AT MOST 1048576: true; the input reads as it did. -/
def lazyEndsUptoRow : OpenClaim := { program := "ytkghjecglmmloaagreat", sum := "2c3630f680352d7a443b68c810c23ece42ffc84b1e2c5712f130849ba3d18db0", func := "ferrule/ferrulelaw25.LazyEnds", spec := "lazyEnds", unfollowed := true, recurses := true, apart := false, narrowed := true }
def LazyEndsUptoSaid : Prop := lazyEndsUptoRow.holds Tryz.pinned (OpenSpec.upto lazyEndsSpec)

/-- 'ferrulelaw25.LazyProves', WHERE WHAT IT READS IS OF BULK AT MOST 1048576: true; the input reads as it did. -/
def lazyProvesUptoRow : OpenClaim := { program := "ytkghjecglmmloaagreat", sum := "2c3630f680352d7a443b68c810c23ece42ffc84b1e2c5712f130849ba3d18db0", func := "ferrule/ferrulelaw25.LazyProves", spec := "lazyProves", unfollowed := true, recurses := true, apart := false, narrowed := true }
def LazyProvesUptoSaid : Prop := lazyProvesUptoRow.holds Tryz.pinned (OpenSpec.upto lazyProvesSpec)

end Rows
end Go.Proofs.YtkghjecglmmloaaGreat
