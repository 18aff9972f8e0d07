/-
  No cell of these rows narrows 'for every input' (looked for: loops, veiled, ifaces, maps, wideKeys, modest, calm, conditions, laid).
  DERIVED. THE GIVEN ROWS OF THIS SEAT. 28 by the template 'for every input the law returns true; each argument reads behind the call as it read before'; 0 by the template 'total and deterministic' (their statements: YthbojpaghbbnnaaTotals.lean).
  GIVEN WITH THE SEED: the statements are not yours to turn. If you find one false, say at which input.
  Laid BY PROGRAM, IN A SANDBOX (cutbox-rows.mjs): the forced cells as the released guide's own fill.sh prints them over the translation 468988f1b45e48da… (all of the seat's roots in one cut). By AI agents, Wed Nov 11 2026. No macro, syntax, notation, axiom, sorry.
-/
import Derived.Test.YthbojpaghbbnnaaChecked
import GoSem.Claim
import GoSem.ClaimJoined
import GoSem.ClaimMapViews
import Derived.JoinedTies
import Derived.KernelRfl
namespace Go.Proofs.Ythbojpaghbbnnaa
/- THE CELL 'sum', in the pinned program and in every row, IS THE sha256 OF THE DUMP (.gsa) THAT YthbojpaghbbnnaaProg.lean LOADS. Nothing in Lean hashes anything: it is a label: what it is worth is what the hold of that sum in a sandbox is worth. -/
noncomputable def Try.pinned : Pinned := { name := "ythbojpaghbbnnaa", sum := "468988f1b45e48dad106d8d6d74fbd42c1682d89c847cd36c87b4dee32d19d8e", checked := Try.checked }
namespace Rows
def none {H : Type} : Left H := { results := [], args := [] }

/-- 'pithlaw.Names': WHATEVER THE INPUT: true; the input reads as it did. -/
def namesSpec : ChangeSpec := { name := "names", fn := fun _ => fun
  | [] => { results := [.lit (.bool true)], args := [] }
  | _ => none }
def namesRow : OpenClaim := { program := "ythbojpaghbbnnaa", sum := "468988f1b45e48dad106d8d6d74fbd42c1682d89c847cd36c87b4dee32d19d8e", func := "pith/pithlaw.Names", spec := "names", plainKeys := false, apart := false }
def NamesSaid : Prop := namesRow.holds Try.pinned (OpenSpec.ofChange namesSpec)

/-- ITS FALSE NEIGHBOUR: 'it returns false'. Refute it at one input. -/
def namesWrong : ChangeSpec := { name := "names", fn := fun _ => fun
  | [] => { results := [.lit (.bool false)], args := [] }
  | _ => none }
def NamesWrongFalsely : Prop := namesRow.holds Try.pinned (OpenSpec.ofChange namesWrong)

/-- 'pithlaw5.GraphEdges': WHATEVER THE INPUT: true; the input reads as it did. -/
def graphEdgesSpec : ChangeSpec := { name := "graphEdges", fn := fun _ => fun
  | [d1, d2, d3, d4] => { results := [.lit (.bool true)], args := [d1, d2, d3, d4] }
  | _ => none }
def graphEdgesRow : OpenClaim := { program := "ythbojpaghbbnnaa", sum := "468988f1b45e48dad106d8d6d74fbd42c1682d89c847cd36c87b4dee32d19d8e", func := "pith/pithlaw5.GraphEdges", spec := "graphEdges", recurses := true, plainKeys := false, apart := false }
def GraphEdgesSaid : Prop := graphEdgesRow.holds Try.pinned (OpenSpec.ofChange graphEdgesSpec)

/-- ITS FALSE NEIGHBOUR: 'it returns false'. Refute it at one input. -/
def graphEdgesWrong : ChangeSpec := { name := "graphEdges", fn := fun _ => fun
  | [d1, d2, d3, d4] => { results := [.lit (.bool false)], args := [d1, d2, d3, d4] }
  | _ => none }
def GraphEdgesWrongFalsely : Prop := graphEdgesRow.holds Try.pinned (OpenSpec.ofChange graphEdgesWrong)

/-- 'pithlaw5.GraphWays': WHATEVER THE INPUT: true; the input reads as it did. -/
def graphWaysSpec : ChangeSpec := { name := "graphWays", fn := fun _ => fun
  | [d1, d2, d3] => { results := [.lit (.bool true)], args := [d1, d2, d3] }
  | _ => none }
def graphWaysRow : OpenClaim := { program := "ythbojpaghbbnnaa", sum := "468988f1b45e48dad106d8d6d74fbd42c1682d89c847cd36c87b4dee32d19d8e", func := "pith/pithlaw5.GraphWays", spec := "graphWays", recurses := true, plainKeys := false, apart := false }
def GraphWaysSaid : Prop := graphWaysRow.holds Try.pinned (OpenSpec.ofChange graphWaysSpec)

/-- ITS FALSE NEIGHBOUR: 'it returns false'. Refute it at one input. -/
def graphWaysWrong : ChangeSpec := { name := "graphWays", fn := fun _ => fun
  | [d1, d2, d3] => { results := [.lit (.bool false)], args := [d1, d2, d3] }
  | _ => none }
def GraphWaysWrongFalsely : Prop := graphWaysRow.holds Try.pinned (OpenSpec.ofChange graphWaysWrong)

/-- 'pithlaw5.GraphWithin': WHATEVER THE INPUT: true; the input reads as it did. -/
def graphWithinSpec : ChangeSpec := { name := "graphWithin", fn := fun _ => fun
  | [d1, d2, d3, d4, d5, d6] => { results := [.lit (.bool true)], args := [d1, d2, d3, d4, d5, d6] }
  | _ => none }
def graphWithinRow : OpenClaim := { program := "ythbojpaghbbnnaa", sum := "468988f1b45e48dad106d8d6d74fbd42c1682d89c847cd36c87b4dee32d19d8e", func := "pith/pithlaw5.GraphWithin", spec := "graphWithin", recurses := true, plainKeys := false, apart := false }
def GraphWithinSaid : Prop := graphWithinRow.holds Try.pinned (OpenSpec.ofChange graphWithinSpec)

/-- ITS FALSE NEIGHBOUR: 'it returns false'. Refute it at one input. -/
def graphWithinWrong : ChangeSpec := { name := "graphWithin", fn := fun _ => fun
  | [d1, d2, d3, d4, d5, d6] => { results := [.lit (.bool false)], args := [d1, d2, d3, d4, d5, d6] }
  | _ => none }
def GraphWithinWrongFalsely : Prop := graphWithinRow.holds Try.pinned (OpenSpec.ofChange graphWithinWrong)

/-- 'pithlaw5.GraphChange': WHATEVER THE INPUT: true; the input reads as it did. -/
def graphChangeSpec : ChangeSpec := { name := "graphChange", fn := fun _ => fun
  | [d1, d2, d3] => { results := [.lit (.bool true)], args := [d1, d2, d3] }
  | _ => none }
def graphChangeRow : OpenClaim := { program := "ythbojpaghbbnnaa", sum := "468988f1b45e48dad106d8d6d74fbd42c1682d89c847cd36c87b4dee32d19d8e", func := "pith/pithlaw5.GraphChange", spec := "graphChange", recurses := true, plainKeys := false, apart := false }
def GraphChangeSaid : Prop := graphChangeRow.holds Try.pinned (OpenSpec.ofChange graphChangeSpec)

/-- ITS FALSE NEIGHBOUR: 'it returns false'. Refute it at one input. -/
def graphChangeWrong : ChangeSpec := { name := "graphChange", fn := fun _ => fun
  | [d1, d2, d3] => { results := [.lit (.bool false)], args := [d1, d2, d3] }
  | _ => none }
def GraphChangeWrongFalsely : Prop := graphChangeRow.holds Try.pinned (OpenSpec.ofChange graphChangeWrong)

/-- 'pithlaw5.GraphBoth': WHATEVER THE INPUT: true; the input reads as it did. -/
def graphBothSpec : ChangeSpec := { name := "graphBoth", fn := fun _ => fun
  | [d1, d2] => { results := [.lit (.bool true)], args := [d1, d2] }
  | _ => none }
def graphBothRow : OpenClaim := { program := "ythbojpaghbbnnaa", sum := "468988f1b45e48dad106d8d6d74fbd42c1682d89c847cd36c87b4dee32d19d8e", func := "pith/pithlaw5.GraphBoth", spec := "graphBoth", recurses := true, plainKeys := false, apart := false }
def GraphBothSaid : Prop := graphBothRow.holds Try.pinned (OpenSpec.ofChange graphBothSpec)

/-- ITS FALSE NEIGHBOUR: 'it returns false'. Refute it at one input. -/
def graphBothWrong : ChangeSpec := { name := "graphBoth", fn := fun _ => fun
  | [d1, d2] => { results := [.lit (.bool false)], args := [d1, d2] }
  | _ => none }
def GraphBothWrongFalsely : Prop := graphBothRow.holds Try.pinned (OpenSpec.ofChange graphBothWrong)

/-- 'pithlaw5.GraphMakes': WHATEVER THE INPUT: true; the input reads as it did. -/
def graphMakesSpec : ChangeSpec := { name := "graphMakes", fn := fun _ => fun
  | [d1, d2] => { results := [.lit (.bool true)], args := [d1, d2] }
  | _ => none }
def graphMakesRow : OpenClaim := { program := "ythbojpaghbbnnaa", sum := "468988f1b45e48dad106d8d6d74fbd42c1682d89c847cd36c87b4dee32d19d8e", func := "pith/pithlaw5.GraphMakes", spec := "graphMakes", recurses := true, plainKeys := false, apart := false }
def GraphMakesSaid : Prop := graphMakesRow.holds Try.pinned (OpenSpec.ofChange graphMakesSpec)

/-- ITS FALSE NEIGHBOUR: 'it returns false'. Refute it at one input. -/
def graphMakesWrong : ChangeSpec := { name := "graphMakes", fn := fun _ => fun
  | [d1, d2] => { results := [.lit (.bool false)], args := [d1, d2] }
  | _ => none }
def GraphMakesWrongFalsely : Prop := graphMakesRow.holds Try.pinned (OpenSpec.ofChange graphMakesWrong)

/-- 'pithlaw5.GraphInduced': WHATEVER THE INPUT: true; the input reads as it did. -/
def graphInducedSpec : ChangeSpec := { name := "graphInduced", fn := fun _ => fun
  | [d1, d2, d3] => { results := [.lit (.bool true)], args := [d1, d2, d3] }
  | _ => none }
def graphInducedRow : OpenClaim := { program := "ythbojpaghbbnnaa", sum := "468988f1b45e48dad106d8d6d74fbd42c1682d89c847cd36c87b4dee32d19d8e", func := "pith/pithlaw5.GraphInduced", spec := "graphInduced", recurses := true, plainKeys := false, apart := false }
def GraphInducedSaid : Prop := graphInducedRow.holds Try.pinned (OpenSpec.ofChange graphInducedSpec)

/-- ITS FALSE NEIGHBOUR: 'it returns false'. Refute it at one input. -/
def graphInducedWrong : ChangeSpec := { name := "graphInduced", fn := fun _ => fun
  | [d1, d2, d3] => { results := [.lit (.bool false)], args := [d1, d2, d3] }
  | _ => none }
def GraphInducedWrongFalsely : Prop := graphInducedRow.holds Try.pinned (OpenSpec.ofChange graphInducedWrong)

/-- 'pithlaw5.GraphChanged': WHATEVER THE INPUT: true; the input reads as it did. -/
def graphChangedSpec : ChangeSpec := { name := "graphChanged", fn := fun _ => fun
  | [d1, d2, d3] => { results := [.lit (.bool true)], args := [d1, d2, d3] }
  | _ => none }
def graphChangedRow : OpenClaim := { program := "ythbojpaghbbnnaa", sum := "468988f1b45e48dad106d8d6d74fbd42c1682d89c847cd36c87b4dee32d19d8e", func := "pith/pithlaw5.GraphChanged", spec := "graphChanged", recurses := true, plainKeys := false, apart := false }
def GraphChangedSaid : Prop := graphChangedRow.holds Try.pinned (OpenSpec.ofChange graphChangedSpec)

/-- ITS FALSE NEIGHBOUR: 'it returns false'. Refute it at one input. -/
def graphChangedWrong : ChangeSpec := { name := "graphChanged", fn := fun _ => fun
  | [d1, d2, d3] => { results := [.lit (.bool false)], args := [d1, d2, d3] }
  | _ => none }
def GraphChangedWrongFalsely : Prop := graphChangedRow.holds Try.pinned (OpenSpec.ofChange graphChangedWrong)

/-- 'pithlaw5.GraphAsks': WHATEVER THE INPUT: true; the input reads as it did. -/
def graphAsksSpec : ChangeSpec := { name := "graphAsks", fn := fun _ => fun
  | [d1, d2, d3] => { results := [.lit (.bool true)], args := [d1, d2, d3] }
  | _ => none }
def graphAsksRow : OpenClaim := { program := "ythbojpaghbbnnaa", sum := "468988f1b45e48dad106d8d6d74fbd42c1682d89c847cd36c87b4dee32d19d8e", func := "pith/pithlaw5.GraphAsks", spec := "graphAsks", recurses := true, plainKeys := false, apart := false }
def GraphAsksSaid : Prop := graphAsksRow.holds Try.pinned (OpenSpec.ofChange graphAsksSpec)

/-- ITS FALSE NEIGHBOUR: 'it returns false'. Refute it at one input. -/
def graphAsksWrong : ChangeSpec := { name := "graphAsks", fn := fun _ => fun
  | [d1, d2, d3] => { results := [.lit (.bool false)], args := [d1, d2, d3] }
  | _ => none }
def GraphAsksWrongFalsely : Prop := graphAsksRow.holds Try.pinned (OpenSpec.ofChange graphAsksWrong)

/-- 'pithlaw7.HindexH': WHATEVER THE INPUT: true; the input reads as it did. -/
def hindexHSpec : ChangeSpec := { name := "hindexH", fn := fun _ => fun
  | [d1, d2, d3, d4] => { results := [.lit (.bool true)], args := [d1, d2, d3, d4] }
  | _ => none }
def hindexHRow : OpenClaim := { program := "ythbojpaghbbnnaa", sum := "468988f1b45e48dad106d8d6d74fbd42c1682d89c847cd36c87b4dee32d19d8e", func := "pith/pithlaw7.HindexH", spec := "hindexH", recurses := true, plainKeys := false, apart := false }
def HindexHSaid : Prop := hindexHRow.holds Try.pinned (OpenSpec.ofChange hindexHSpec)

/-- ITS FALSE NEIGHBOUR: 'it returns false'. Refute it at one input. -/
def hindexHWrong : ChangeSpec := { name := "hindexH", fn := fun _ => fun
  | [d1, d2, d3, d4] => { results := [.lit (.bool false)], args := [d1, d2, d3, d4] }
  | _ => none }
def HindexHWrongFalsely : Prop := hindexHRow.holds Try.pinned (OpenSpec.ofChange hindexHWrong)

/-- 'pithlaw7.HindexSweeps': WHATEVER THE INPUT: true; the input reads as it did. -/
def hindexSweepsSpec : ChangeSpec := { name := "hindexSweeps", fn := fun _ => fun
  | [d1, d2, d3, d4, d5] => { results := [.lit (.bool true)], args := [d1, d2, d3, d4, d5] }
  | _ => none }
def hindexSweepsRow : OpenClaim := { program := "ythbojpaghbbnnaa", sum := "468988f1b45e48dad106d8d6d74fbd42c1682d89c847cd36c87b4dee32d19d8e", func := "pith/pithlaw7.HindexSweeps", spec := "hindexSweeps", recurses := true, plainKeys := false, apart := false }
def HindexSweepsSaid : Prop := hindexSweepsRow.holds Try.pinned (OpenSpec.ofChange hindexSweepsSpec)

/-- ITS FALSE NEIGHBOUR: 'it returns false'. Refute it at one input. -/
def hindexSweepsWrong : ChangeSpec := { name := "hindexSweeps", fn := fun _ => fun
  | [d1, d2, d3, d4, d5] => { results := [.lit (.bool false)], args := [d1, d2, d3, d4, d5] }
  | _ => none }
def HindexSweepsWrongFalsely : Prop := hindexSweepsRow.holds Try.pinned (OpenSpec.ofChange hindexSweepsWrong)

/-- 'pithlaw7.HindexRuns': WHATEVER THE INPUT: true; the input reads as it did. -/
def hindexRunsSpec : ChangeSpec := { name := "hindexRuns", fn := fun _ => fun
  | [d1, d2, d3] => { results := [.lit (.bool true)], args := [d1, d2, d3] }
  | _ => none }
def hindexRunsRow : OpenClaim := { program := "ythbojpaghbbnnaa", sum := "468988f1b45e48dad106d8d6d74fbd42c1682d89c847cd36c87b4dee32d19d8e", func := "pith/pithlaw7.HindexRuns", spec := "hindexRuns", recurses := true, plainKeys := false, apart := false }
def HindexRunsSaid : Prop := hindexRunsRow.holds Try.pinned (OpenSpec.ofChange hindexRunsSpec)

/-- ITS FALSE NEIGHBOUR: 'it returns false'. Refute it at one input. -/
def hindexRunsWrong : ChangeSpec := { name := "hindexRuns", fn := fun _ => fun
  | [d1, d2, d3] => { results := [.lit (.bool false)], args := [d1, d2, d3] }
  | _ => none }
def HindexRunsWrongFalsely : Prop := hindexRunsRow.holds Try.pinned (OpenSpec.ofChange hindexRunsWrong)

/-- 'pithlaw7.HindexCores': WHATEVER THE INPUT: true; the input reads as it did. -/
def hindexCoresSpec : ChangeSpec := { name := "hindexCores", fn := fun _ => fun
  | [d1, d2] => { results := [.lit (.bool true)], args := [d1, d2] }
  | _ => none }
def hindexCoresRow : OpenClaim := { program := "ythbojpaghbbnnaa", sum := "468988f1b45e48dad106d8d6d74fbd42c1682d89c847cd36c87b4dee32d19d8e", func := "pith/pithlaw7.HindexCores", spec := "hindexCores", recurses := true, plainKeys := false, apart := false }
def HindexCoresSaid : Prop := hindexCoresRow.holds Try.pinned (OpenSpec.ofChange hindexCoresSpec)

/-- ITS FALSE NEIGHBOUR: 'it returns false'. Refute it at one input. -/
def hindexCoresWrong : ChangeSpec := { name := "hindexCores", fn := fun _ => fun
  | [d1, d2] => { results := [.lit (.bool false)], args := [d1, d2] }
  | _ => none }
def HindexCoresWrongFalsely : Prop := hindexCoresRow.holds Try.pinned (OpenSpec.ofChange hindexCoresWrong)

/-- 'pithlaw7.HindexHolds': WHATEVER THE INPUT: true; the input reads as it did. -/
def hindexHoldsSpec : ChangeSpec := { name := "hindexHolds", fn := fun _ => fun
  | [d1, d2, d3, d4] => { results := [.lit (.bool true)], args := [d1, d2, d3, d4] }
  | _ => none }
def hindexHoldsRow : OpenClaim := { program := "ythbojpaghbbnnaa", sum := "468988f1b45e48dad106d8d6d74fbd42c1682d89c847cd36c87b4dee32d19d8e", func := "pith/pithlaw7.HindexHolds", spec := "hindexHolds", recurses := true, plainKeys := false, apart := false }
def HindexHoldsSaid : Prop := hindexHoldsRow.holds Try.pinned (OpenSpec.ofChange hindexHoldsSpec)

/-- ITS FALSE NEIGHBOUR: 'it returns false'. Refute it at one input. -/
def hindexHoldsWrong : ChangeSpec := { name := "hindexHolds", fn := fun _ => fun
  | [d1, d2, d3, d4] => { results := [.lit (.bool false)], args := [d1, d2, d3, d4] }
  | _ => none }
def HindexHoldsWrongFalsely : Prop := hindexHoldsRow.holds Try.pinned (OpenSpec.ofChange hindexHoldsWrong)

/-- 'pithlaw7.HindexLeft': WHATEVER THE INPUT: true; the input reads as it did. -/
def hindexLeftSpec : ChangeSpec := { name := "hindexLeft", fn := fun _ => fun
  | [d1, d2, d3, d4] => { results := [.lit (.bool true)], args := [d1, d2, d3, d4] }
  | _ => none }
def hindexLeftRow : OpenClaim := { program := "ythbojpaghbbnnaa", sum := "468988f1b45e48dad106d8d6d74fbd42c1682d89c847cd36c87b4dee32d19d8e", func := "pith/pithlaw7.HindexLeft", spec := "hindexLeft", recurses := true, plainKeys := false, apart := false }
def HindexLeftSaid : Prop := hindexLeftRow.holds Try.pinned (OpenSpec.ofChange hindexLeftSpec)

/-- ITS FALSE NEIGHBOUR: 'it returns false'. Refute it at one input. -/
def hindexLeftWrong : ChangeSpec := { name := "hindexLeft", fn := fun _ => fun
  | [d1, d2, d3, d4] => { results := [.lit (.bool false)], args := [d1, d2, d3, d4] }
  | _ => none }
def HindexLeftWrongFalsely : Prop := hindexLeftRow.holds Try.pinned (OpenSpec.ofChange hindexLeftWrong)

/-- 'pithlaw7.HindexAbove': WHATEVER THE INPUT: true; the input reads as it did. -/
def hindexAboveSpec : ChangeSpec := { name := "hindexAbove", fn := fun _ => fun
  | [d1, d2, d3] => { results := [.lit (.bool true)], args := [d1, d2, d3] }
  | _ => none }
def hindexAboveRow : OpenClaim := { program := "ythbojpaghbbnnaa", sum := "468988f1b45e48dad106d8d6d74fbd42c1682d89c847cd36c87b4dee32d19d8e", func := "pith/pithlaw7.HindexAbove", spec := "hindexAbove", recurses := true, plainKeys := false, apart := false }
def HindexAboveSaid : Prop := hindexAboveRow.holds Try.pinned (OpenSpec.ofChange hindexAboveSpec)

/-- ITS FALSE NEIGHBOUR: 'it returns false'. Refute it at one input. -/
def hindexAboveWrong : ChangeSpec := { name := "hindexAbove", fn := fun _ => fun
  | [d1, d2, d3] => { results := [.lit (.bool false)], args := [d1, d2, d3] }
  | _ => none }
def HindexAboveWrongFalsely : Prop := hindexAboveRow.holds Try.pinned (OpenSpec.ofChange hindexAboveWrong)

/-- 'pithlaw7.HindexMany': WHATEVER THE INPUT: true; the input reads as it did. -/
def hindexManySpec : ChangeSpec := { name := "hindexMany", fn := fun _ => fun
  | [d1, d2, d3] => { results := [.lit (.bool true)], args := [d1, d2, d3] }
  | _ => none }
def hindexManyRow : OpenClaim := { program := "ythbojpaghbbnnaa", sum := "468988f1b45e48dad106d8d6d74fbd42c1682d89c847cd36c87b4dee32d19d8e", func := "pith/pithlaw7.HindexMany", spec := "hindexMany", recurses := true, plainKeys := false, apart := false }
def HindexManySaid : Prop := hindexManyRow.holds Try.pinned (OpenSpec.ofChange hindexManySpec)

/-- ITS FALSE NEIGHBOUR: 'it returns false'. Refute it at one input. -/
def hindexManyWrong : ChangeSpec := { name := "hindexMany", fn := fun _ => fun
  | [d1, d2, d3] => { results := [.lit (.bool false)], args := [d1, d2, d3] }
  | _ => none }
def HindexManyWrongFalsely : Prop := hindexManyRow.holds Try.pinned (OpenSpec.ofChange hindexManyWrong)

/-- 'pithlaw7.HindexSteps': WHATEVER THE INPUT: true; the input reads as it did. -/
def hindexStepsSpec : ChangeSpec := { name := "hindexSteps", fn := fun _ => fun
  | [d1, d2, d3] => { results := [.lit (.bool true)], args := [d1, d2, d3] }
  | _ => none }
def hindexStepsRow : OpenClaim := { program := "ythbojpaghbbnnaa", sum := "468988f1b45e48dad106d8d6d74fbd42c1682d89c847cd36c87b4dee32d19d8e", func := "pith/pithlaw7.HindexSteps", spec := "hindexSteps", recurses := true, plainKeys := false, apart := false }
def HindexStepsSaid : Prop := hindexStepsRow.holds Try.pinned (OpenSpec.ofChange hindexStepsSpec)

/-- ITS FALSE NEIGHBOUR: 'it returns false'. Refute it at one input. -/
def hindexStepsWrong : ChangeSpec := { name := "hindexSteps", fn := fun _ => fun
  | [d1, d2, d3] => { results := [.lit (.bool false)], args := [d1, d2, d3] }
  | _ => none }
def HindexStepsWrongFalsely : Prop := hindexStepsRow.holds Try.pinned (OpenSpec.ofChange hindexStepsWrong)

/-- 'pithlaw6.PeelCores': WHATEVER THE INPUT: true; the input reads as it did. -/
def peelCoresSpec : ChangeSpec := { name := "peelCores", fn := fun _ => fun
  | [d1, d2] => { results := [.lit (.bool true)], args := [d1, d2] }
  | _ => none }
def peelCoresRow : OpenClaim := { program := "ythbojpaghbbnnaa", sum := "468988f1b45e48dad106d8d6d74fbd42c1682d89c847cd36c87b4dee32d19d8e", func := "pith/pithlaw6.PeelCores", spec := "peelCores", recurses := true, plainKeys := false, apart := false }
def PeelCoresSaid : Prop := peelCoresRow.holds Try.pinned (OpenSpec.ofChange peelCoresSpec)

/-- ITS FALSE NEIGHBOUR: 'it returns false'. Refute it at one input. -/
def peelCoresWrong : ChangeSpec := { name := "peelCores", fn := fun _ => fun
  | [d1, d2] => { results := [.lit (.bool false)], args := [d1, d2] }
  | _ => none }
def PeelCoresWrongFalsely : Prop := peelCoresRow.holds Try.pinned (OpenSpec.ofChange peelCoresWrong)

/-- 'pithlaw6.PeelOrders': WHATEVER THE INPUT: true; the input reads as it did. -/
def peelOrdersSpec : ChangeSpec := { name := "peelOrders", fn := fun _ => fun
  | [d1, d2] => { results := [.lit (.bool true)], args := [d1, d2] }
  | _ => none }
def peelOrdersRow : OpenClaim := { program := "ythbojpaghbbnnaa", sum := "468988f1b45e48dad106d8d6d74fbd42c1682d89c847cd36c87b4dee32d19d8e", func := "pith/pithlaw6.PeelOrders", spec := "peelOrders", recurses := true, plainKeys := false, apart := false }
def PeelOrdersSaid : Prop := peelOrdersRow.holds Try.pinned (OpenSpec.ofChange peelOrdersSpec)

/-- ITS FALSE NEIGHBOUR: 'it returns false'. Refute it at one input. -/
def peelOrdersWrong : ChangeSpec := { name := "peelOrders", fn := fun _ => fun
  | [d1, d2] => { results := [.lit (.bool false)], args := [d1, d2] }
  | _ => none }
def PeelOrdersWrongFalsely : Prop := peelOrdersRow.holds Try.pinned (OpenSpec.ofChange peelOrdersWrong)

/-- 'pithlaw6.PeelShells': WHATEVER THE INPUT: true; the input reads as it did. -/
def peelShellsSpec : ChangeSpec := { name := "peelShells", fn := fun _ => fun
  | [d1, d2] => { results := [.lit (.bool true)], args := [d1, d2] }
  | _ => none }
def peelShellsRow : OpenClaim := { program := "ythbojpaghbbnnaa", sum := "468988f1b45e48dad106d8d6d74fbd42c1682d89c847cd36c87b4dee32d19d8e", func := "pith/pithlaw6.PeelShells", spec := "peelShells", recurses := true, plainKeys := false, apart := false }
def PeelShellsSaid : Prop := peelShellsRow.holds Try.pinned (OpenSpec.ofChange peelShellsSpec)

/-- ITS FALSE NEIGHBOUR: 'it returns false'. Refute it at one input. -/
def peelShellsWrong : ChangeSpec := { name := "peelShells", fn := fun _ => fun
  | [d1, d2] => { results := [.lit (.bool false)], args := [d1, d2] }
  | _ => none }
def PeelShellsWrongFalsely : Prop := peelShellsRow.holds Try.pinned (OpenSpec.ofChange peelShellsWrong)

/-- 'pithlaw6.PeelSets': WHATEVER THE INPUT: true; the input reads as it did. -/
def peelSetsSpec : ChangeSpec := { name := "peelSets", fn := fun _ => fun
  | [d1, d2, d3, d4] => { results := [.lit (.bool true)], args := [d1, d2, d3, d4] }
  | _ => none }
def peelSetsRow : OpenClaim := { program := "ythbojpaghbbnnaa", sum := "468988f1b45e48dad106d8d6d74fbd42c1682d89c847cd36c87b4dee32d19d8e", func := "pith/pithlaw6.PeelSets", spec := "peelSets", recurses := true, plainKeys := false, apart := false }
def PeelSetsSaid : Prop := peelSetsRow.holds Try.pinned (OpenSpec.ofChange peelSetsSpec)

/-- ITS FALSE NEIGHBOUR: 'it returns false'. Refute it at one input. -/
def peelSetsWrong : ChangeSpec := { name := "peelSets", fn := fun _ => fun
  | [d1, d2, d3, d4] => { results := [.lit (.bool false)], args := [d1, d2, d3, d4] }
  | _ => none }
def PeelSetsWrongFalsely : Prop := peelSetsRow.holds Try.pinned (OpenSpec.ofChange peelSetsWrong)

/-- 'pithlaw6.PeelHalf': WHATEVER THE INPUT: true; the input reads as it did. -/
def peelHalfSpec : ChangeSpec := { name := "peelHalf", fn := fun _ => fun
  | [d1, d2, d3] => { results := [.lit (.bool true)], args := [d1, d2, d3] }
  | _ => none }
def peelHalfRow : OpenClaim := { program := "ythbojpaghbbnnaa", sum := "468988f1b45e48dad106d8d6d74fbd42c1682d89c847cd36c87b4dee32d19d8e", func := "pith/pithlaw6.PeelHalf", spec := "peelHalf", recurses := true, plainKeys := false, apart := false }
def PeelHalfSaid : Prop := peelHalfRow.holds Try.pinned (OpenSpec.ofChange peelHalfSpec)

/-- ITS FALSE NEIGHBOUR: 'it returns false'. Refute it at one input. -/
def peelHalfWrong : ChangeSpec := { name := "peelHalf", fn := fun _ => fun
  | [d1, d2, d3] => { results := [.lit (.bool false)], args := [d1, d2, d3] }
  | _ => none }
def PeelHalfWrongFalsely : Prop := peelHalfRow.holds Try.pinned (OpenSpec.ofChange peelHalfWrong)

/-- 'pithlaw6.PeelDensities': WHATEVER THE INPUT: true; the input reads as it did. -/
def peelDensitiesSpec : ChangeSpec := { name := "peelDensities", fn := fun _ => fun
  | [d1, d2, d3] => { results := [.lit (.bool true)], args := [d1, d2, d3] }
  | _ => none }
def peelDensitiesRow : OpenClaim := { program := "ythbojpaghbbnnaa", sum := "468988f1b45e48dad106d8d6d74fbd42c1682d89c847cd36c87b4dee32d19d8e", func := "pith/pithlaw6.PeelDensities", spec := "peelDensities", recurses := true, plainKeys := false, apart := false }
def PeelDensitiesSaid : Prop := peelDensitiesRow.holds Try.pinned (OpenSpec.ofChange peelDensitiesSpec)

/-- ITS FALSE NEIGHBOUR: 'it returns false'. Refute it at one input. -/
def peelDensitiesWrong : ChangeSpec := { name := "peelDensities", fn := fun _ => fun
  | [d1, d2, d3] => { results := [.lit (.bool false)], args := [d1, d2, d3] }
  | _ => none }
def PeelDensitiesWrongFalsely : Prop := peelDensitiesRow.holds Try.pinned (OpenSpec.ofChange peelDensitiesWrong)

/-- 'pithlaw6.PeelEdge': WHATEVER THE INPUT: true; the input reads as it did. -/
def peelEdgeSpec : ChangeSpec := { name := "peelEdge", fn := fun _ => fun
  | [d1, d2, d3, d4] => { results := [.lit (.bool true)], args := [d1, d2, d3, d4] }
  | _ => none }
def peelEdgeRow : OpenClaim := { program := "ythbojpaghbbnnaa", sum := "468988f1b45e48dad106d8d6d74fbd42c1682d89c847cd36c87b4dee32d19d8e", func := "pith/pithlaw6.PeelEdge", spec := "peelEdge", recurses := true, plainKeys := false, apart := false }
def PeelEdgeSaid : Prop := peelEdgeRow.holds Try.pinned (OpenSpec.ofChange peelEdgeSpec)

/-- ITS FALSE NEIGHBOUR: 'it returns false'. Refute it at one input. -/
def peelEdgeWrong : ChangeSpec := { name := "peelEdge", fn := fun _ => fun
  | [d1, d2, d3, d4] => { results := [.lit (.bool false)], args := [d1, d2, d3, d4] }
  | _ => none }
def PeelEdgeWrongFalsely : Prop := peelEdgeRow.holds Try.pinned (OpenSpec.ofChange peelEdgeWrong)

/-- 'pithlaw6.PeelBehind': WHATEVER THE INPUT: true; the input reads as it did. -/
def peelBehindSpec : ChangeSpec := { name := "peelBehind", fn := fun _ => fun
  | [d1, d2, d3] => { results := [.lit (.bool true)], args := [d1, d2, d3] }
  | _ => none }
def peelBehindRow : OpenClaim := { program := "ythbojpaghbbnnaa", sum := "468988f1b45e48dad106d8d6d74fbd42c1682d89c847cd36c87b4dee32d19d8e", func := "pith/pithlaw6.PeelBehind", spec := "peelBehind", recurses := true, plainKeys := false, apart := false }
def PeelBehindSaid : Prop := peelBehindRow.holds Try.pinned (OpenSpec.ofChange peelBehindSpec)

/-- ITS FALSE NEIGHBOUR: 'it returns false'. Refute it at one input. -/
def peelBehindWrong : ChangeSpec := { name := "peelBehind", fn := fun _ => fun
  | [d1, d2, d3] => { results := [.lit (.bool false)], args := [d1, d2, d3] }
  | _ => none }
def PeelBehindWrongFalsely : Prop := peelBehindRow.holds Try.pinned (OpenSpec.ofChange peelBehindWrong)

/-- 'pithlaw6.PeelColours': WHATEVER THE INPUT: true; the input reads as it did. -/
def peelColoursSpec : ChangeSpec := { name := "peelColours", fn := fun _ => fun
  | [d1, d2, d3] => { results := [.lit (.bool true)], args := [d1, d2, d3] }
  | _ => none }
def peelColoursRow : OpenClaim := { program := "ythbojpaghbbnnaa", sum := "468988f1b45e48dad106d8d6d74fbd42c1682d89c847cd36c87b4dee32d19d8e", func := "pith/pithlaw6.PeelColours", spec := "peelColours", recurses := true, plainKeys := false, apart := false }
def PeelColoursSaid : Prop := peelColoursRow.holds Try.pinned (OpenSpec.ofChange peelColoursSpec)

/-- ITS FALSE NEIGHBOUR: 'it returns false'. Refute it at one input. -/
def peelColoursWrong : ChangeSpec := { name := "peelColours", fn := fun _ => fun
  | [d1, d2, d3] => { results := [.lit (.bool false)], args := [d1, d2, d3] }
  | _ => none }
def PeelColoursWrongFalsely : Prop := peelColoursRow.holds Try.pinned (OpenSpec.ofChange peelColoursWrong)

/- THE SECOND FORM. 'bulk': how many values and letters a reading holds, each counted each time it is reached (what is shared counts as often as it is met; a slice's spare places count too). A statement '..UptoSaid' is the law's where the arguments, and the package variables that the reading takes, are together of bulk at most 1048576: NARROWER than '..Said'. Prove '..Said' where nothing that the law and all that it calls make is longer than what came in: it says more and counts as full. Else prove '..UptoSaid'. A law counts once. -/
mutual
def uptoBulk {H : Type} : DataW H → Nat
  | .lit (.string bytes) => bytes.length + 1
  | .lit _ => 1
  | .nil => 1
  | .ptr d => uptoBulk d + 1
  | .slice elems spare => uptoBulkAll elems + uptoBulkAll spare + 1
  | .agg parts => uptoBulkAll parts + 1
  | .iface _ d => uptoBulk d + 1
  | .map entries => uptoBulkEntries entries + 1
  | .held _ => 1
def uptoBulkAll {H : Type} : List (DataW H) → Nat
  | [] => 0
  | d :: r => uptoBulk d + uptoBulkAll r
def uptoBulkEntries {H : Type} : List (Lit × DataW H) → Nat
  | [] => 0
  | x :: r => uptoBulkEntry x + uptoBulkEntries r
def uptoBulkEntry {H : Type} : Lit × DataW H → Nat
  | (.string bytes, d) => bytes.length + uptoBulk d + 1
  | (_, d) => uptoBulk d + 1
 end
def uptoSmall : (H : Type) → List (DataW H) → Bool := fun _ ds => decide (uptoBulkAll ds ≤ 1048576)
def OpenSpec.upto (s : _root_.Go.ChangeSpec) : _root_.Go.OpenSpec := { _root_.Go.OpenSpec.ofChange s with cond := some uptoSmall }

/-- 'pithlaw.Names', WHERE WHAT IT READS IS OF BULK AT MOST 1048576: true; the input reads as it did. -/
def namesUptoRow : OpenClaim := { program := "ythbojpaghbbnnaa", sum := "468988f1b45e48dad106d8d6d74fbd42c1682d89c847cd36c87b4dee32d19d8e", func := "pith/pithlaw.Names", spec := "names", plainKeys := false, apart := false, narrowed := true }
def NamesUptoSaid : Prop := namesUptoRow.holds Try.pinned (OpenSpec.upto namesSpec)

/-- 'pithlaw5.GraphEdges', WHERE WHAT IT READS IS OF BULK AT MOST 1048576: true; the input reads as it did. -/
def graphEdgesUptoRow : OpenClaim := { program := "ythbojpaghbbnnaa", sum := "468988f1b45e48dad106d8d6d74fbd42c1682d89c847cd36c87b4dee32d19d8e", func := "pith/pithlaw5.GraphEdges", spec := "graphEdges", recurses := true, plainKeys := false, apart := false, narrowed := true }
def GraphEdgesUptoSaid : Prop := graphEdgesUptoRow.holds Try.pinned (OpenSpec.upto graphEdgesSpec)

/-- 'pithlaw5.GraphWays', WHERE WHAT IT READS IS OF BULK AT MOST 1048576: true; the input reads as it did. -/
def graphWaysUptoRow : OpenClaim := { program := "ythbojpaghbbnnaa", sum := "468988f1b45e48dad106d8d6d74fbd42c1682d89c847cd36c87b4dee32d19d8e", func := "pith/pithlaw5.GraphWays", spec := "graphWays", recurses := true, plainKeys := false, apart := false, narrowed := true }
def GraphWaysUptoSaid : Prop := graphWaysUptoRow.holds Try.pinned (OpenSpec.upto graphWaysSpec)

/-- 'pithlaw5.GraphWithin', WHERE WHAT IT READS IS OF BULK AT MOST 1048576: true; the input reads as it did. -/
def graphWithinUptoRow : OpenClaim := { program := "ythbojpaghbbnnaa", sum := "468988f1b45e48dad106d8d6d74fbd42c1682d89c847cd36c87b4dee32d19d8e", func := "pith/pithlaw5.GraphWithin", spec := "graphWithin", recurses := true, plainKeys := false, apart := false, narrowed := true }
def GraphWithinUptoSaid : Prop := graphWithinUptoRow.holds Try.pinned (OpenSpec.upto graphWithinSpec)

/-- 'pithlaw5.GraphChange', WHERE WHAT IT READS IS OF BULK AT MOST 1048576: true; the input reads as it did. -/
def graphChangeUptoRow : OpenClaim := { program := "ythbojpaghbbnnaa", sum := "468988f1b45e48dad106d8d6d74fbd42c1682d89c847cd36c87b4dee32d19d8e", func := "pith/pithlaw5.GraphChange", spec := "graphChange", recurses := true, plainKeys := false, apart := false, narrowed := true }
def GraphChangeUptoSaid : Prop := graphChangeUptoRow.holds Try.pinned (OpenSpec.upto graphChangeSpec)

/-- 'pithlaw5.GraphBoth', WHERE WHAT IT READS IS OF BULK AT MOST 1048576: true; the input reads as it did. -/
def graphBothUptoRow : OpenClaim := { program := "ythbojpaghbbnnaa", sum := "468988f1b45e48dad106d8d6d74fbd42c1682d89c847cd36c87b4dee32d19d8e", func := "pith/pithlaw5.GraphBoth", spec := "graphBoth", recurses := true, plainKeys := false, apart := false, narrowed := true }
def GraphBothUptoSaid : Prop := graphBothUptoRow.holds Try.pinned (OpenSpec.upto graphBothSpec)

/-- 'pithlaw5.GraphMakes', WHERE WHAT IT READS IS OF BULK AT MOST 1048576: true; the input reads as it did. -/
def graphMakesUptoRow : OpenClaim := { program := "ythbojpaghbbnnaa", sum := "468988f1b45e48dad106d8d6d74fbd42c1682d89c847cd36c87b4dee32d19d8e", func := "pith/pithlaw5.GraphMakes", spec := "graphMakes", recurses := true, plainKeys := false, apart := false, narrowed := true }
def GraphMakesUptoSaid : Prop := graphMakesUptoRow.holds Try.pinned (OpenSpec.upto graphMakesSpec)

/-- 'pithlaw5.GraphInduced', WHERE WHAT IT READS IS OF BULK AT MOST 1048576: true; the input reads as it did. -/
def graphInducedUptoRow : OpenClaim := { program := "ythbojpaghbbnnaa", sum := "468988f1b45e48dad106d8d6d74fbd42c1682d89c847cd36c87b4dee32d19d8e", func := "pith/pithlaw5.GraphInduced", spec := "graphInduced", recurses := true, plainKeys := false, apart := false, narrowed := true }
def GraphInducedUptoSaid : Prop := graphInducedUptoRow.holds Try.pinned (OpenSpec.upto graphInducedSpec)

/-- 'pithlaw5.GraphChanged', WHERE WHAT IT READS IS OF BULK AT MOST 1048576: true; the input reads as it did. -/
def graphChangedUptoRow : OpenClaim := { program := "ythbojpaghbbnnaa", sum := "468988f1b45e48dad106d8d6d74fbd42c1682d89c847cd36c87b4dee32d19d8e", func := "pith/pithlaw5.GraphChanged", spec := "graphChanged", recurses := true, plainKeys := false, apart := false, narrowed := true }
def GraphChangedUptoSaid : Prop := graphChangedUptoRow.holds Try.pinned (OpenSpec.upto graphChangedSpec)

/-- 'pithlaw5.GraphAsks', WHERE WHAT IT READS IS OF BULK AT MOST 1048576: true; the input reads as it did. -/
def graphAsksUptoRow : OpenClaim := { program := "ythbojpaghbbnnaa", sum := "468988f1b45e48dad106d8d6d74fbd42c1682d89c847cd36c87b4dee32d19d8e", func := "pith/pithlaw5.GraphAsks", spec := "graphAsks", recurses := true, plainKeys := false, apart := false, narrowed := true }
def GraphAsksUptoSaid : Prop := graphAsksUptoRow.holds Try.pinned (OpenSpec.upto graphAsksSpec)

/-- 'pithlaw7.HindexH', WHERE WHAT IT READS IS OF BULK AT MOST 1048576: true; the input reads as it did. -/
def hindexHUptoRow : OpenClaim := { program := "ythbojpaghbbnnaa", sum := "468988f1b45e48dad106d8d6d74fbd42c1682d89c847cd36c87b4dee32d19d8e", func := "pith/pithlaw7.HindexH", spec := "hindexH", recurses := true, plainKeys := false, apart := false, narrowed := true }
def HindexHUptoSaid : Prop := hindexHUptoRow.holds Try.pinned (OpenSpec.upto hindexHSpec)

/-- 'pithlaw7.HindexSweeps', WHERE WHAT IT READS IS OF BULK AT MOST 1048576: true; the input reads as it did. -/
def hindexSweepsUptoRow : OpenClaim := { program := "ythbojpaghbbnnaa", sum := "468988f1b45e48dad106d8d6d74fbd42c1682d89c847cd36c87b4dee32d19d8e", func := "pith/pithlaw7.HindexSweeps", spec := "hindexSweeps", recurses := true, plainKeys := false, apart := false, narrowed := true }
def HindexSweepsUptoSaid : Prop := hindexSweepsUptoRow.holds Try.pinned (OpenSpec.upto hindexSweepsSpec)

/-- 'pithlaw7.HindexRuns', WHERE WHAT IT READS IS OF BULK AT MOST 1048576: true; the input reads as it did. -/
def hindexRunsUptoRow : OpenClaim := { program := "ythbojpaghbbnnaa", sum := "468988f1b45e48dad106d8d6d74fbd42c1682d89c847cd36c87b4dee32d19d8e", func := "pith/pithlaw7.HindexRuns", spec := "hindexRuns", recurses := true, plainKeys := false, apart := false, narrowed := true }
def HindexRunsUptoSaid : Prop := hindexRunsUptoRow.holds Try.pinned (OpenSpec.upto hindexRunsSpec)

/-- 'pithlaw7.HindexCores', WHERE WHAT IT READS IS OF BULK AT MOST 1048576: true; the input reads as it did. -/
def hindexCoresUptoRow : OpenClaim := { program := "ythbojpaghbbnnaa", sum := "468988f1b45e48dad106d8d6d74fbd42c1682d89c847cd36c87b4dee32d19d8e", func := "pith/pithlaw7.HindexCores", spec := "hindexCores", recurses := true, plainKeys := false, apart := false, narrowed := true }
def HindexCoresUptoSaid : Prop := hindexCoresUptoRow.holds Try.pinned (OpenSpec.upto hindexCoresSpec)

/-- 'pithlaw7.HindexHolds', WHERE WHAT IT READS IS OF BULK AT MOST 1048576: true; the input reads as it did. -/
def hindexHoldsUptoRow : OpenClaim := { program := "ythbojpaghbbnnaa", sum := "468988f1b45e48dad106d8d6d74fbd42c1682d89c847cd36c87b4dee32d19d8e", func := "pith/pithlaw7.HindexHolds", spec := "hindexHolds", recurses := true, plainKeys := false, apart := false, narrowed := true }
def HindexHoldsUptoSaid : Prop := hindexHoldsUptoRow.holds Try.pinned (OpenSpec.upto hindexHoldsSpec)

/-- 'pithlaw7.HindexLeft', WHERE WHAT IT READS IS OF BULK AT MOST 1048576: true; the input reads as it did. -/
def hindexLeftUptoRow : OpenClaim := { program := "ythbojpaghbbnnaa", sum := "468988f1b45e48dad106d8d6d74fbd42c1682d89c847cd36c87b4dee32d19d8e", func := "pith/pithlaw7.HindexLeft", spec := "hindexLeft", recurses := true, plainKeys := false, apart := false, narrowed := true }
def HindexLeftUptoSaid : Prop := hindexLeftUptoRow.holds Try.pinned (OpenSpec.upto hindexLeftSpec)

/-- 'pithlaw7.HindexAbove', WHERE WHAT IT READS IS OF BULK AT MOST 1048576: true; the input reads as it did. -/
def hindexAboveUptoRow : OpenClaim := { program := "ythbojpaghbbnnaa", sum := "468988f1b45e48dad106d8d6d74fbd42c1682d89c847cd36c87b4dee32d19d8e", func := "pith/pithlaw7.HindexAbove", spec := "hindexAbove", recurses := true, plainKeys := false, apart := false, narrowed := true }
def HindexAboveUptoSaid : Prop := hindexAboveUptoRow.holds Try.pinned (OpenSpec.upto hindexAboveSpec)

/-- 'pithlaw7.HindexMany', WHERE WHAT IT READS IS OF BULK AT MOST 1048576: true; the input reads as it did. -/
def hindexManyUptoRow : OpenClaim := { program := "ythbojpaghbbnnaa", sum := "468988f1b45e48dad106d8d6d74fbd42c1682d89c847cd36c87b4dee32d19d8e", func := "pith/pithlaw7.HindexMany", spec := "hindexMany", recurses := true, plainKeys := false, apart := false, narrowed := true }
def HindexManyUptoSaid : Prop := hindexManyUptoRow.holds Try.pinned (OpenSpec.upto hindexManySpec)

/-- 'pithlaw7.HindexSteps', WHERE WHAT IT READS IS OF BULK AT MOST 1048576: true; the input reads as it did. -/
def hindexStepsUptoRow : OpenClaim := { program := "ythbojpaghbbnnaa", sum := "468988f1b45e48dad106d8d6d74fbd42c1682d89c847cd36c87b4dee32d19d8e", func := "pith/pithlaw7.HindexSteps", spec := "hindexSteps", recurses := true, plainKeys := false, apart := false, narrowed := true }
def HindexStepsUptoSaid : Prop := hindexStepsUptoRow.holds Try.pinned (OpenSpec.upto hindexStepsSpec)

/-- 'pithlaw6.PeelCores', WHERE WHAT IT READS IS OF BULK AT MOST 1048576: true; the input reads as it did. -/
def peelCoresUptoRow : OpenClaim := { program := "ythbojpaghbbnnaa", sum := "468988f1b45e48dad106d8d6d74fbd42c1682d89c847cd36c87b4dee32d19d8e", func := "pith/pithlaw6.PeelCores", spec := "peelCores", recurses := true, plainKeys := false, apart := false, narrowed := true }
def PeelCoresUptoSaid : Prop := peelCoresUptoRow.holds Try.pinned (OpenSpec.upto peelCoresSpec)

/-- 'pithlaw6.PeelOrders', WHERE WHAT IT READS IS OF BULK AT MOST 1048576: true; the input reads as it did. -/
def peelOrdersUptoRow : OpenClaim := { program := "ythbojpaghbbnnaa", sum := "468988f1b45e48dad106d8d6d74fbd42c1682d89c847cd36c87b4dee32d19d8e", func := "pith/pithlaw6.PeelOrders", spec := "peelOrders", recurses := true, plainKeys := false, apart := false, narrowed := true }
def PeelOrdersUptoSaid : Prop := peelOrdersUptoRow.holds Try.pinned (OpenSpec.upto peelOrdersSpec)

/-- 'pithlaw6.PeelShells', WHERE WHAT IT READS IS OF BULK AT MOST 1048576: true; the input reads as it did. -/
def peelShellsUptoRow : OpenClaim := { program := "ythbojpaghbbnnaa", sum := "468988f1b45e48dad106d8d6d74fbd42c1682d89c847cd36c87b4dee32d19d8e", func := "pith/pithlaw6.PeelShells", spec := "peelShells", recurses := true, plainKeys := false, apart := false, narrowed := true }
def PeelShellsUptoSaid : Prop := peelShellsUptoRow.holds Try.pinned (OpenSpec.upto peelShellsSpec)

/-- 'pithlaw6.PeelSets', WHERE WHAT IT READS IS OF BULK AT MOST 1048576: true; the input reads as it did. -/
def peelSetsUptoRow : OpenClaim := { program := "ythbojpaghbbnnaa", sum := "468988f1b45e48dad106d8d6d74fbd42c1682d89c847cd36c87b4dee32d19d8e", func := "pith/pithlaw6.PeelSets", spec := "peelSets", recurses := true, plainKeys := false, apart := false, narrowed := true }
def PeelSetsUptoSaid : Prop := peelSetsUptoRow.holds Try.pinned (OpenSpec.upto peelSetsSpec)

/-- 'pithlaw6.PeelHalf', WHERE WHAT IT READS IS OF BULK AT MOST 1048576: true; the input reads as it did. -/
def peelHalfUptoRow : OpenClaim := { program := "ythbojpaghbbnnaa", sum := "468988f1b45e48dad106d8d6d74fbd42c1682d89c847cd36c87b4dee32d19d8e", func := "pith/pithlaw6.PeelHalf", spec := "peelHalf", recurses := true, plainKeys := false, apart := false, narrowed := true }
def PeelHalfUptoSaid : Prop := peelHalfUptoRow.holds Try.pinned (OpenSpec.upto peelHalfSpec)

/-- 'pithlaw6.PeelDensities', WHERE WHAT IT READS IS OF BULK AT MOST 1048576: true; the input reads as it did. -/
def peelDensitiesUptoRow : OpenClaim := { program := "ythbojpaghbbnnaa", sum := "468988f1b45e48dad106d8d6d74fbd42c1682d89c847cd36c87b4dee32d19d8e", func := "pith/pithlaw6.PeelDensities", spec := "peelDensities", recurses := true, plainKeys := false, apart := false, narrowed := true }
def PeelDensitiesUptoSaid : Prop := peelDensitiesUptoRow.holds Try.pinned (OpenSpec.upto peelDensitiesSpec)

/-- 'pithlaw6.PeelEdge', WHERE WHAT IT READS IS OF BULK AT MOST 1048576: true; the input reads as it did. -/
def peelEdgeUptoRow : OpenClaim := { program := "ythbojpaghbbnnaa", sum := "468988f1b45e48dad106d8d6d74fbd42c1682d89c847cd36c87b4dee32d19d8e", func := "pith/pithlaw6.PeelEdge", spec := "peelEdge", recurses := true, plainKeys := false, apart := false, narrowed := true }
def PeelEdgeUptoSaid : Prop := peelEdgeUptoRow.holds Try.pinned (OpenSpec.upto peelEdgeSpec)

/-- 'pithlaw6.PeelBehind', WHERE WHAT IT READS IS OF BULK AT MOST 1048576: true; the input reads as it did. -/
def peelBehindUptoRow : OpenClaim := { program := "ythbojpaghbbnnaa", sum := "468988f1b45e48dad106d8d6d74fbd42c1682d89c847cd36c87b4dee32d19d8e", func := "pith/pithlaw6.PeelBehind", spec := "peelBehind", recurses := true, plainKeys := false, apart := false, narrowed := true }
def PeelBehindUptoSaid : Prop := peelBehindUptoRow.holds Try.pinned (OpenSpec.upto peelBehindSpec)

/-- 'pithlaw6.PeelColours', WHERE WHAT IT READS IS OF BULK AT MOST 1048576: true; the input reads as it did. -/
def peelColoursUptoRow : OpenClaim := { program := "ythbojpaghbbnnaa", sum := "468988f1b45e48dad106d8d6d74fbd42c1682d89c847cd36c87b4dee32d19d8e", func := "pith/pithlaw6.PeelColours", spec := "peelColours", recurses := true, plainKeys := false, apart := false, narrowed := true }
def PeelColoursUptoSaid : Prop := peelColoursUptoRow.holds Try.pinned (OpenSpec.upto peelColoursSpec)

end Rows
end Go.Proofs.Ythbojpaghbbnnaa
