/-
  NARROWER THAN 'FOR EVERY INPUT', by the rows' own cells (each row's printed sentence says how): EstBegins: laid · EstLayouts: laid · EstCalled: laid · EstGoes: laid · EstCores: laid · EstBounds: laid.
  DERIVED. THE GIVEN ROWS OF THIS SEAT. 6 by the template 'for every input the law returns true; each argument reads behind the call as it read before'; 0 by the template 'total and deterministic' (their statements: YthbojpaghbbnnaaDoorTotals.lean).
  GIVEN WITH THE SEED: the statements are not yours to turn. If you find one false, say at which input.
  Laid BY PROGRAM, IN A SANDBOX (cutbox-rows.mjs): the forced cells as the released guide's own fill.sh prints them over the translation f716918cf54f39c8… (all of the seat's roots in one cut). By AI agents, Wed Nov 11 2026. No macro, syntax, notation, axiom, sorry.
-/
import Derived.Test.YthbojpaghbbnnaaDoorChecked
import GoSem.Claim
import GoSem.ClaimJoined
import GoSem.ClaimMapViews
import Derived.JoinedTies
import Derived.KernelRfl
namespace Go.Proofs.YthbojpaghbbnnaaDoor
/- THE CELL 'sum', in the pinned program and in every row, IS THE sha256 OF THE DUMP (.gsa) THAT YthbojpaghbbnnaaDoorProg.lean LOADS. Nothing in Lean hashes anything: it is a label: what it is worth is what the hold of that sum in a sandbox is worth. -/
noncomputable def Tryd.pinned : Pinned := { name := "ythbojpaghbbnnaadoor", sum := "f716918cf54f39c864155c33c88dbc7c1a2f79398d9aed548834f6acafbccad4", checked := Tryd.checked }
namespace Rows
def none {H : Type} : Left H := { results := [], args := [] }

/- WHAT THE LISTED PACKAGE-LEVEL VARIABLES READ AS WHEN THE CALL BEGINS. Each datum BY PROGRAM (the guide's laid-datum.mjs) off the statement by which the dump's own 'gosem.cut.vars' lays the variable. In a bare row this is a premise. The card (YthbojpaghbbnnaaDoorCards.lean) ties it to the program's text. -/
def laid_math_bits_deBruijn64tab {H : Type} : DataW H := .agg [.lit (.int .u8 0), .lit (.int .u8 1), .lit (.int .u8 56), .lit (.int .u8 2), .lit (.int .u8 57), .lit (.int .u8 49), .lit (.int .u8 28), .lit (.int .u8 3), .lit (.int .u8 61), .lit (.int .u8 58), .lit (.int .u8 42), .lit (.int .u8 50), .lit (.int .u8 38), .lit (.int .u8 29), .lit (.int .u8 17), .lit (.int .u8 4), .lit (.int .u8 62), .lit (.int .u8 47), .lit (.int .u8 59), .lit (.int .u8 36), .lit (.int .u8 45), .lit (.int .u8 43), .lit (.int .u8 51), .lit (.int .u8 22), .lit (.int .u8 53), .lit (.int .u8 39), .lit (.int .u8 33), .lit (.int .u8 30), .lit (.int .u8 24), .lit (.int .u8 18), .lit (.int .u8 12), .lit (.int .u8 5), .lit (.int .u8 63), .lit (.int .u8 55), .lit (.int .u8 48), .lit (.int .u8 27), .lit (.int .u8 60), .lit (.int .u8 41), .lit (.int .u8 37), .lit (.int .u8 16), .lit (.int .u8 46), .lit (.int .u8 35), .lit (.int .u8 44), .lit (.int .u8 21), .lit (.int .u8 52), .lit (.int .u8 32), .lit (.int .u8 23), .lit (.int .u8 11), .lit (.int .u8 54), .lit (.int .u8 26), .lit (.int .u8 40), .lit (.int .u8 15), .lit (.int .u8 34), .lit (.int .u8 20), .lit (.int .u8 31), .lit (.int .u8 10), .lit (.int .u8 25), .lit (.int .u8 14), .lit (.int .u8 19), .lit (.int .u8 9), .lit (.int .u8 13), .lit (.int .u8 8), .lit (.int .u8 7), .lit (.int .u8 6)]

/-- 'pithlaw17.EstBegins': WHATEVER THE INPUT: true; the input reads as it did. -/
def estBeginsSpec : ChangeSpec := { name := "estBegins", fn := fun _ => fun
  | [d] => { results := [.lit (.bool true)], args := [d] }
  | _ => none }
def estBeginsRow : OpenClaim := { program := "ythbojpaghbbnnaadoor", sum := "f716918cf54f39c864155c33c88dbc7c1a2f79398d9aed548834f6acafbccad4", func := "pith/pithlaw17.EstBegins", spec := "estBegins", unfollowed := true, recurses := true, named := ["math/bits.deBruijn64tab"], plainKeys := false, apart := false, laid := [("math/bits.deBruijn64tab", laid_math_bits_deBruijn64tab)] }
def EstBeginsSaid : Prop := estBeginsRow.holds Tryd.pinned (OpenSpec.ofChange estBeginsSpec)

/-- ITS FALSE NEIGHBOUR: 'it returns false'. Refute it at one input. -/
def estBeginsWrong : ChangeSpec := { name := "estBegins", fn := fun _ => fun
  | [d] => { results := [.lit (.bool false)], args := [d] }
  | _ => none }
def EstBeginsWrongFalsely : Prop := estBeginsRow.holds Tryd.pinned (OpenSpec.ofChange estBeginsWrong)

/-- 'pithlaw17.EstLayouts': WHATEVER THE INPUT: true; the input reads as it did. -/
def estLayoutsSpec : ChangeSpec := { name := "estLayouts", fn := fun _ => fun
  | [d1, d2, d3, d4] => { results := [.lit (.bool true)], args := [d1, d2, d3, d4] }
  | _ => none }
def estLayoutsRow : OpenClaim := { program := "ythbojpaghbbnnaadoor", sum := "f716918cf54f39c864155c33c88dbc7c1a2f79398d9aed548834f6acafbccad4", func := "pith/pithlaw17.EstLayouts", spec := "estLayouts", unfollowed := true, recurses := true, named := ["math/bits.deBruijn64tab"], plainKeys := false, apart := false, laid := [("math/bits.deBruijn64tab", laid_math_bits_deBruijn64tab)] }
def EstLayoutsSaid : Prop := estLayoutsRow.holds Tryd.pinned (OpenSpec.ofChange estLayoutsSpec)

/-- ITS FALSE NEIGHBOUR: 'it returns false'. Refute it at one input. -/
def estLayoutsWrong : ChangeSpec := { name := "estLayouts", fn := fun _ => fun
  | [d1, d2, d3, d4] => { results := [.lit (.bool false)], args := [d1, d2, d3, d4] }
  | _ => none }
def EstLayoutsWrongFalsely : Prop := estLayoutsRow.holds Tryd.pinned (OpenSpec.ofChange estLayoutsWrong)

/-- 'pithlaw17.EstCalled': WHATEVER THE INPUT: true; the input reads as it did. -/
def estCalledSpec : ChangeSpec := { name := "estCalled", fn := fun _ => fun
  | [d1, d2, d3] => { results := [.lit (.bool true)], args := [d1, d2, d3] }
  | _ => none }
def estCalledRow : OpenClaim := { program := "ythbojpaghbbnnaadoor", sum := "f716918cf54f39c864155c33c88dbc7c1a2f79398d9aed548834f6acafbccad4", func := "pith/pithlaw17.EstCalled", spec := "estCalled", unfollowed := true, recurses := true, named := ["math/bits.deBruijn64tab"], plainKeys := false, apart := false, laid := [("math/bits.deBruijn64tab", laid_math_bits_deBruijn64tab)] }
def EstCalledSaid : Prop := estCalledRow.holds Tryd.pinned (OpenSpec.ofChange estCalledSpec)

/-- ITS FALSE NEIGHBOUR: 'it returns false'. Refute it at one input. -/
def estCalledWrong : ChangeSpec := { name := "estCalled", fn := fun _ => fun
  | [d1, d2, d3] => { results := [.lit (.bool false)], args := [d1, d2, d3] }
  | _ => none }
def EstCalledWrongFalsely : Prop := estCalledRow.holds Tryd.pinned (OpenSpec.ofChange estCalledWrong)

/-- 'pithlaw17.EstGoes': WHATEVER THE INPUT: true; the input reads as it did. -/
def estGoesSpec : ChangeSpec := { name := "estGoes", fn := fun _ => fun
  | [d1, d2, d3, d4] => { results := [.lit (.bool true)], args := [d1, d2, d3, d4] }
  | _ => none }
def estGoesRow : OpenClaim := { program := "ythbojpaghbbnnaadoor", sum := "f716918cf54f39c864155c33c88dbc7c1a2f79398d9aed548834f6acafbccad4", func := "pith/pithlaw17.EstGoes", spec := "estGoes", unfollowed := true, recurses := true, named := ["math/bits.deBruijn64tab"], plainKeys := false, apart := false, laid := [("math/bits.deBruijn64tab", laid_math_bits_deBruijn64tab)] }
def EstGoesSaid : Prop := estGoesRow.holds Tryd.pinned (OpenSpec.ofChange estGoesSpec)

/-- ITS FALSE NEIGHBOUR: 'it returns false'. Refute it at one input. -/
def estGoesWrong : ChangeSpec := { name := "estGoes", fn := fun _ => fun
  | [d1, d2, d3, d4] => { results := [.lit (.bool false)], args := [d1, d2, d3, d4] }
  | _ => none }
def EstGoesWrongFalsely : Prop := estGoesRow.holds Tryd.pinned (OpenSpec.ofChange estGoesWrong)

/-- 'pithlaw17.EstCores': WHATEVER THE INPUT: true; the input reads as it did. -/
def estCoresSpec : ChangeSpec := { name := "estCores", fn := fun _ => fun
  | [d1, d2, d3] => { results := [.lit (.bool true)], args := [d1, d2, d3] }
  | _ => none }
def estCoresRow : OpenClaim := { program := "ythbojpaghbbnnaadoor", sum := "f716918cf54f39c864155c33c88dbc7c1a2f79398d9aed548834f6acafbccad4", func := "pith/pithlaw17.EstCores", spec := "estCores", unfollowed := true, recurses := true, named := ["math/bits.deBruijn64tab"], plainKeys := false, apart := false, laid := [("math/bits.deBruijn64tab", laid_math_bits_deBruijn64tab)] }
def EstCoresSaid : Prop := estCoresRow.holds Tryd.pinned (OpenSpec.ofChange estCoresSpec)

/-- ITS FALSE NEIGHBOUR: 'it returns false'. Refute it at one input. -/
def estCoresWrong : ChangeSpec := { name := "estCores", fn := fun _ => fun
  | [d1, d2, d3] => { results := [.lit (.bool false)], args := [d1, d2, d3] }
  | _ => none }
def EstCoresWrongFalsely : Prop := estCoresRow.holds Tryd.pinned (OpenSpec.ofChange estCoresWrong)

/-- 'pithlaw17.EstBounds': WHATEVER THE INPUT: true; the input reads as it did. -/
def estBoundsSpec : ChangeSpec := { name := "estBounds", fn := fun _ => fun
  | [d1, d2, d3, d4] => { results := [.lit (.bool true)], args := [d1, d2, d3, d4] }
  | _ => none }
def estBoundsRow : OpenClaim := { program := "ythbojpaghbbnnaadoor", sum := "f716918cf54f39c864155c33c88dbc7c1a2f79398d9aed548834f6acafbccad4", func := "pith/pithlaw17.EstBounds", spec := "estBounds", unfollowed := true, recurses := true, named := ["math/bits.deBruijn64tab"], plainKeys := false, apart := false, laid := [("math/bits.deBruijn64tab", laid_math_bits_deBruijn64tab)] }
def EstBoundsSaid : Prop := estBoundsRow.holds Tryd.pinned (OpenSpec.ofChange estBoundsSpec)

/-- ITS FALSE NEIGHBOUR: 'it returns false'. Refute it at one input. -/
def estBoundsWrong : ChangeSpec := { name := "estBounds", fn := fun _ => fun
  | [d1, d2, d3, d4] => { results := [.lit (.bool false)], args := [d1, d2, d3, d4] }
  | _ => none }
def EstBoundsWrongFalsely : Prop := estBoundsRow.holds Tryd.pinned (OpenSpec.ofChange estBoundsWrong)

/- THE SECOND FORM. 'bulk': how many values and letters a reading holds, each counted each time it is reached (what is shared counts as often as it is met; a slice's spare places count too). A statement '..UptoSaid' is the law's where the arguments, and the package variables that the reading takes, are together of bulk at most 1048576: NARROWER than '..Said'. Prove '..Said' where nothing that the law and all that it calls make is longer than what came in: it says more and counts as full. Else prove '..UptoSaid'. A law counts once. -/
mutual
def uptoBulk {H : Type} : DataW H → Nat
  | .lit (.string bytes) => bytes.length + 1
  | .lit _ => 1
  | .nil => 1
  | .ptr d => uptoBulk d + 1
  | .slice elems spare => uptoBulkAll elems + uptoBulkAll spare + 1
  | .agg parts => uptoBulkAll parts + 1
  | .iface _ d => uptoBulk d + 1
  | .map entries => uptoBulkEntries entries + 1
  | .held _ => 1
def uptoBulkAll {H : Type} : List (DataW H) → Nat
  | [] => 0
  | d :: r => uptoBulk d + uptoBulkAll r
def uptoBulkEntries {H : Type} : List (Lit × DataW H) → Nat
  | [] => 0
  | x :: r => uptoBulkEntry x + uptoBulkEntries r
def uptoBulkEntry {H : Type} : Lit × DataW H → Nat
  | (.string bytes, d) => bytes.length + uptoBulk d + 1
  | (_, d) => uptoBulk d + 1
 end
def uptoSmall : (H : Type) → List (DataW H) → Bool := fun _ ds => decide (uptoBulkAll ds ≤ 1048576)
def OpenSpec.upto (s : _root_.Go.ChangeSpec) : _root_.Go.OpenSpec := { _root_.Go.OpenSpec.ofChange s with cond := some uptoSmall }

/-- 'pithlaw17.EstBegins', WHERE WHAT IT READS IS OF BULK AT MOST 1048576: true; the input reads as it did. -/
def estBeginsUptoRow : OpenClaim := { program := "ythbojpaghbbnnaadoor", sum := "f716918cf54f39c864155c33c88dbc7c1a2f79398d9aed548834f6acafbccad4", func := "pith/pithlaw17.EstBegins", spec := "estBegins", unfollowed := true, recurses := true, named := ["math/bits.deBruijn64tab"], plainKeys := false, apart := false, laid := [("math/bits.deBruijn64tab", laid_math_bits_deBruijn64tab)], narrowed := true }
def EstBeginsUptoSaid : Prop := estBeginsUptoRow.holds Tryd.pinned (OpenSpec.upto estBeginsSpec)

/-- 'pithlaw17.EstLayouts', WHERE WHAT IT READS IS OF BULK AT MOST 1048576: true; the input reads as it did. -/
def estLayoutsUptoRow : OpenClaim := { program := "ythbojpaghbbnnaadoor", sum := "f716918cf54f39c864155c33c88dbc7c1a2f79398d9aed548834f6acafbccad4", func := "pith/pithlaw17.EstLayouts", spec := "estLayouts", unfollowed := true, recurses := true, named := ["math/bits.deBruijn64tab"], plainKeys := false, apart := false, laid := [("math/bits.deBruijn64tab", laid_math_bits_deBruijn64tab)], narrowed := true }
def EstLayoutsUptoSaid : Prop := estLayoutsUptoRow.holds Tryd.pinned (OpenSpec.upto estLayoutsSpec)

/-- 'pithlaw17.EstCalled', WHERE WHAT IT READS IS OF BULK AT MOST 1048576: true; the input reads as it did. -/
def estCalledUptoRow : OpenClaim := { program := "ythbojpaghbbnnaadoor", sum := "f716918cf54f39c864155c33c88dbc7c1a2f79398d9aed548834f6acafbccad4", func := "pith/pithlaw17.EstCalled", spec := "estCalled", unfollowed := true, recurses := true, named := ["math/bits.deBruijn64tab"], plainKeys := false, apart := false, laid := [("math/bits.deBruijn64tab", laid_math_bits_deBruijn64tab)], narrowed := true }
def EstCalledUptoSaid : Prop := estCalledUptoRow.holds Tryd.pinned (OpenSpec.upto estCalledSpec)

/-- 'pithlaw17.EstGoes', WHERE WHAT IT READS IS OF BULK AT MOST 1048576: true; the input reads as it did. -/
def estGoesUptoRow : OpenClaim := { program := "ythbojpaghbbnnaadoor", sum := "f716918cf54f39c864155c33c88dbc7c1a2f79398d9aed548834f6acafbccad4", func := "pith/pithlaw17.EstGoes", spec := "estGoes", unfollowed := true, recurses := true, named := ["math/bits.deBruijn64tab"], plainKeys := false, apart := false, laid := [("math/bits.deBruijn64tab", laid_math_bits_deBruijn64tab)], narrowed := true }
def EstGoesUptoSaid : Prop := estGoesUptoRow.holds Tryd.pinned (OpenSpec.upto estGoesSpec)

/-- 'pithlaw17.EstCores', WHERE WHAT IT READS IS OF BULK AT MOST 1048576: true; the input reads as it did. -/
def estCoresUptoRow : OpenClaim := { program := "ythbojpaghbbnnaadoor", sum := "f716918cf54f39c864155c33c88dbc7c1a2f79398d9aed548834f6acafbccad4", func := "pith/pithlaw17.EstCores", spec := "estCores", unfollowed := true, recurses := true, named := ["math/bits.deBruijn64tab"], plainKeys := false, apart := false, laid := [("math/bits.deBruijn64tab", laid_math_bits_deBruijn64tab)], narrowed := true }
def EstCoresUptoSaid : Prop := estCoresUptoRow.holds Tryd.pinned (OpenSpec.upto estCoresSpec)

/-- 'pithlaw17.EstBounds', WHERE WHAT IT READS IS OF BULK AT MOST 1048576: true; the input reads as it did. -/
def estBoundsUptoRow : OpenClaim := { program := "ythbojpaghbbnnaadoor", sum := "f716918cf54f39c864155c33c88dbc7c1a2f79398d9aed548834f6acafbccad4", func := "pith/pithlaw17.EstBounds", spec := "estBounds", unfollowed := true, recurses := true, named := ["math/bits.deBruijn64tab"], plainKeys := false, apart := false, laid := [("math/bits.deBruijn64tab", laid_math_bits_deBruijn64tab)], narrowed := true }
def EstBoundsUptoSaid : Prop := estBoundsUptoRow.holds Tryd.pinned (OpenSpec.upto estBoundsSpec)

end Rows
end Go.Proofs.YthbojpaghbbnnaaDoor
