/- What functions compute from plain values: GraphBoth. Printed by a small program of ours (zgen, zg.py); no condition. -/
import Derived.Test.YthbojpaghbbnnaaZN
import Derived.Test.YthbojpaghbbnnaaZT
import Derived.Test.YthbojpaghbbnnaaZP
import Derived.Test.YthbojpaghbbnnaaZS
import Derived.Test.YthbojpaghbbnnaaWF
import Derived.KernelRfl
namespace Go.Proofs.Ythbojpaghbbnnaa.Z
open Go Go.RowKit
set_option linter.unusedVariables false
set_option linter.unusedSimpArgs false
/-! pith/pithlaw5.GraphBoth -/
namespace GraphBoth
abbrev ps : List PM := [.val I64, .val (.list Pr)]
abbrev rs : List PM := [.val .bool]
noncomputable abbrev code : Code := (Go.Proofs.Try.f8.body.getD .skip)
abbrev s17 : Shape := ⟨[.v I64, .v (.list (.pair I64 I64)), .un, .un, .un, .un, .un, .v (.obj 0), .v I64, .v I64, .v (.list I64), .v I64, .un, .un, .un, .un, .un, .un, .un, .un, .un, .un, .un, .un, .un, .un, .un, .un, .un, .un, .un, .un, .un, .un, .un, .un, .un, .un, .un, .un, .un, .un, .un, .un, .un, .un, .un, .un, .un, .un, .un, .un, .un, .un, .un, .un, .un, .un, .un, .un, .un, .un, .un, .un, .un, .un, .un, .un, .un, .un, .un, .un, .un, .un, .un, .un, .un, .un, .un, .un, .un, .un, .un, .un, .un, .un, .un, .un, .un, .un, .un, .un, .un, .un, .un, .un, .un, .un, .un, .un, .un, .un, .un, .un, .un, .un, .un, .un, .un, .un, .un, .un, .un, .un, .un, .un, .un, .un, .un, .un, .un, .un, .un, .un, .un, .un, .un, .un, .un, .un, .un, .un, .un, .un, .un, .un, .un, .un, .un, .un, .un, .un, .un, .un, .un, .un, .un, .un, .un, .un, .un, .un, .un, .un, .un, .un, .un, .un, .un, .un, .un, .un, .un, .un, .un, .un, .un, .un, .un, .un, .un, .un, .un, .un, .un, .un, .un, .un, .un, .un, .un, .un, .un, .un, .un, .un, .un, .un, .un, .un, .un, .un, .un, .un, .un], []⟩
abbrev x17 : List Way := [⟨.rt, ⟨[(4, none)]⟩, ⟨[.un, .un, .un, .un, .v .bool, .un, .un, .un, .un, .un, .un, .un, .un, .un, .un, .un, .un, .un, .un, .un, .un, .un, .un, .un, .un, .un, .un, .un, .un, .un, .un, .un, .un, .un, .un, .un, .un, .un, .un, .un, .un, .un, .un, .un, .un, .un, .un, .un, .un, .un, .un, .un, .un, .un, .un, .un, .un, .un, .un, .un, .un, .un, .un, .un, .un, .un, .un, .un, .un, .un, .un, .un, .un, .un, .un, .un, .un, .un, .un, .un, .un, .un, .un, .un, .un, .un, .un, .un, .un, .un, .un, .un, .un, .un, .un, .un, .un, .un, .un, .un, .un, .un, .un, .un, .un, .un, .un, .un, .un, .un, .un, .un, .un, .un, .un, .un, .un, .un, .un, .un, .un, .un, .un, .un, .un, .un, .un, .un, .un, .un, .un, .un, .un, .un, .un, .un, .un, .un, .un, .un, .un, .un, .un, .un, .un, .un, .un, .un, .un, .un, .un, .un, .un, .un, .un, .un, .un, .un, .un, .un, .un, .un, .un, .un, .un, .un, .un, .un, .un, .un, .un, .un, .un, .un, .un, .un, .un, .un, .un, .un, .un, .un, .un, .un, .un, .un, .un, .un, .un, .un, .un, .un, .un, .un, .un], []⟩⟩, ⟨(.ex 2), ⟨[(0, none), (1, none), (7, none), (8, none), (9, none)]⟩, ⟨[.v I64, .v (.list (.pair I64 I64)), .un, .un, .un, .un, .un, .v (.obj 0), .v I64, .v I64, .un, .un, .un, .un, .un, .un, .un, .un, .un, .un, .un, .un, .un, .un, .un, .un, .un, .un, .un, .un, .un, .un, .un, .un, .un, .un, .un, .un, .un, .un, .un, .un, .un, .un, .un, .un, .un, .un, .un, .un, .un, .un, .un, .un, .un, .un, .un, .un, .un, .un, .un, .un, .un, .un, .un, .un, .un, .un, .un, .un, .un, .un, .un, .un, .un, .un, .un, .un, .un, .un, .un, .un, .un, .un, .un, .un, .un, .un, .un, .un, .un, .un, .un, .un, .un, .un, .un, .un, .un, .un, .un, .un, .un, .un, .un, .un, .un, .un, .un, .un, .un, .un, .un, .un, .un, .un, .un, .un, .un, .un, .un, .un, .un, .un, .un, .un, .un, .un, .un, .un, .un, .un, .un, .un, .un, .un, .un, .un, .un, .un, .un, .un, .un, .un, .un, .un, .un, .un, .un, .un, .un, .un, .un, .un, .un, .un, .un, .un, .un, .un, .un, .un, .un, .un, .un, .un, .un, .un, .un, .un, .un, .un, .un, .un, .un, .un, .un, .un, .un, .un, .un, .un, .un, .un, .un, .un, .un, .un, .un, .un, .un, .un, .un, .un, .un], []⟩⟩]
abbrev V17 : Type := (Int × (List (Int × Int)) × (Option Gr) × Int × Int × (List Int) × Int × Unit) × (Unit)
abbrev X17 : Type := ((Bool × Unit) × (Unit)) ⊕ ((Int × (List (Int × Int)) × (Option Gr) × Int × Int × Unit) × (Unit))
noncomputable def R17 {R : Type} (n0 : Int) (pairs1 : (List (Int × Int))) (g7 : (Option Gr)) (all8 : Int) (v9 : Int) (to10 : (List Int)) (i11 : Int) (k : V17 → Option R) (kx : X17 → Option R) : Option R := (if Decidable.decide (i11 < (↑(List.length to10) : Int)) = Bool.true then (if (0 : Int) ≤ i11 then (if i11 < (↑(List.length to10) : Int) then (if Has.pre g7 v9 (List.getD to10 (Int.toNat i11) (0 : Int)) = Bool.true then (if (0 : Int) ≤ i11 then (if i11 < (↑(List.length to10) : Int) then (if Has.pre g7 (List.getD to10 (Int.toNat i11) (0 : Int)) v9 = Bool.true then (if (!(Has.fn g7 v9 (List.getD to10 (Int.toNat i11) (0 : Int))).1) = Bool.false then (if (!(Has.fn g7 (List.getD to10 (Int.toNat i11) (0 : Int)) v9).1) = Bool.false then (if Decidable.decide (i11 > (0 : Int)) = Bool.true then (if (0 : Int) ≤ i11 then (if i11 < (↑(List.length to10) : Int) then (if (0 : Int) ≤ IntKind.wrap .i64 (i11 - (1 : Int)) then (if IntKind.wrap .i64 (i11 - (1 : Int)) < (↑(List.length to10) : Int) then (if Decidable.decide (List.getD to10 (Int.toNat i11) (0 : Int) ≤ List.getD to10 (Int.toNat (IntKind.wrap .i64 (i11 - (1 : Int)))) (0 : Int)) = Bool.false then (if (0 : Int) ≤ i11 then (if i11 < (↑(List.length to10) : Int) then (if (List.getD to10 (Int.toNat i11) (0 : Int) == v9) = Bool.true then kx (Sum.inl <| ((Bool.false, ()), (())))
 else k ((n0, pairs1, g7, all8, v9, to10, IntKind.wrap .i64 (i11 + (1 : Int)), ()), (())))
 else none)
 else none)
 else kx (Sum.inl <| ((Bool.false, ()), (()))))
 else none)
 else none)
 else none)
 else none)
 else (if (0 : Int) ≤ i11 then (if i11 < (↑(List.length to10) : Int) then (if (List.getD to10 (Int.toNat i11) (0 : Int) == v9) = Bool.true then kx (Sum.inl <| ((Bool.false, ()), (())))
 else k ((n0, pairs1, g7, all8, v9, to10, IntKind.wrap .i64 (i11 + (1 : Int)), ()), (())))
 else none)
 else none))
 else kx (Sum.inl <| ((Bool.false, ()), (()))))
 else kx (Sum.inl <| ((Bool.false, ()), (()))))
 else none)
 else none)
 else none)
 else none)
 else none)
 else none)
 else kx (Sum.inr <| ((n0, pairs1, g7, all8, v9, ()), (()))))
noncomputable def rd17 : Rd (VO s17) (Xs x17) := fun v k kx => match v with
  | ((n0, pairs1, g7, all8, v9, to10, i11, _), _) => R17 n0 pairs1 g7 all8 v9 to10 i11 k kx
noncomputable def F17 (n0 : Int) (pairs1 : (List (Int × Int))) (g7 : (Option Gr)) (all8 : Int) (v9 : Int) (to10 : (List Int)) (i11 : Int) : Option X17 := finOf rd17 ((n0, pairs1, g7, all8, v9, to10, i11, ()), (()))
theorem F17_inv {n0 : Int} {pairs1 : (List (Int × Int))} {g7 : (Option Gr)} {all8 : Int} {v9 : Int} {to10 : (List Int)} (I : Int → Prop) (μ : Int → Nat) (Q : X17 → Prop) (h : ∀ (i11 : Int), I i11 → Led (fun (R : Type) (k : V17 → Option R) (kx : X17 → Option R) => R17 n0 pairs1 g7 all8 v9 to10 i11 k kx) (fun v => ∃ (i11' : Int), v = ((n0, pairs1, g7, all8, v9, to10, i11', ()), ()) ∧ I i11' ∧ μ i11' < μ i11) Q) : ∀ (i11 : Int), I i11 → ∃ z, F17 n0 pairs1 g7 all8 v9 to10 i11 = some z ∧ Q z := fun i11 hi => by
  refine finOf_inv (V := V17) (X := X17) (rd := rd17) (fun v => ∃ (i11' : Int), v = ((n0, pairs1, g7, all8, v9, to10, i11', ()), ()) ∧ I i11') (fun v => match v with
    | ((n0, pairs1, g7, all8, v9, to10, i11, _), _) => μ i11) Q (fun v hv => ?_) ((n0, pairs1, g7, all8, v9, to10, i11, ()), ()) ⟨i11, rfl, hi⟩
  obtain ⟨i11, rfl, hi⟩ := hv
  refine led_mono (h i11 hi) ?_ (fun _ q => q)
  rintro v ⟨i11', rfl, h1, h2⟩
  exact ⟨⟨i11', rfl, h1⟩, h2⟩
noncomputable def L17 : Lp := ⟨17, ⟨[(0, none), (1, none), (7, none), (8, none), (9, none), (10, none), (11, none)]⟩, s17, x17, fun v => match v with
  | ((n0, pairs1, g7, all8, v9, to10, i11, _), _) => F17 n0 pairs1 g7 all8 v9 to10 i11⟩
theorem ends17 : Ends L17 rd17 := ends_fin (fun v => by
  obtain ⟨⟨n0, pairs1, g7, all8, v9, to10, i11, _⟩, ⟨_⟩⟩ := v
  rfl)
abbrev s10 : Shape := ⟨[.v I64, .v (.list (.pair I64 I64)), .un, .un, .un, .un, .un, .v (.obj 0), .v I64, .v I64, .un, .un, .un, .un, .un, .un, .un, .un, .un, .un, .un, .un, .un, .un, .un, .un, .un, .un, .un, .un, .un, .un, .un, .un, .un, .un, .un, .un, .un, .un, .un, .un, .un, .un, .un, .un, .un, .un, .un, .un, .un, .un, .un, .un, .un, .un, .un, .un, .un, .un, .un, .un, .un, .un, .un, .un, .un, .un, .un, .un, .un, .un, .un, .un, .un, .un, .un, .un, .un, .un, .un, .un, .un, .un, .un, .un, .un, .un, .un, .un, .un, .un, .un, .un, .un, .un, .un, .un, .un, .un, .un, .un, .un, .un, .un, .un, .un, .un, .un, .un, .un, .un, .un, .un, .un, .un, .un, .un, .un, .un, .un, .un, .un, .un, .un, .un, .un, .un, .un, .un, .un, .un, .un, .un, .un, .un, .un, .un, .un, .un, .un, .un, .un, .un, .un, .un, .un, .un, .un, .un, .un, .un, .un, .un, .un, .un, .un, .un, .un, .un, .un, .un, .un, .un, .un, .un, .un, .un, .un, .un, .un, .un, .un, .un, .un, .un, .un, .un, .un, .un, .un, .un, .un, .un, .un, .un, .un, .un, .un, .un, .un, .un, .un, .un, .un], []⟩
abbrev x10 : List Way := [⟨.rt, ⟨[(4, none)]⟩, ⟨[.un, .un, .un, .un, .v .bool, .un, .un, .un, .un, .un, .un, .un, .un, .un, .un, .un, .un, .un, .un, .un, .un, .un, .un, .un, .un, .un, .un, .un, .un, .un, .un, .un, .un, .un, .un, .un, .un, .un, .un, .un, .un, .un, .un, .un, .un, .un, .un, .un, .un, .un, .un, .un, .un, .un, .un, .un, .un, .un, .un, .un, .un, .un, .un, .un, .un, .un, .un, .un, .un, .un, .un, .un, .un, .un, .un, .un, .un, .un, .un, .un, .un, .un, .un, .un, .un, .un, .un, .un, .un, .un, .un, .un, .un, .un, .un, .un, .un, .un, .un, .un, .un, .un, .un, .un, .un, .un, .un, .un, .un, .un, .un, .un, .un, .un, .un, .un, .un, .un, .un, .un, .un, .un, .un, .un, .un, .un, .un, .un, .un, .un, .un, .un, .un, .un, .un, .un, .un, .un, .un, .un, .un, .un, .un, .un, .un, .un, .un, .un, .un, .un, .un, .un, .un, .un, .un, .un, .un, .un, .un, .un, .un, .un, .un, .un, .un, .un, .un, .un, .un, .un, .un, .un, .un, .un, .un, .un, .un, .un, .un, .un, .un, .un, .un, .un, .un, .un, .un, .un, .un, .un, .un, .un, .un, .un, .un], []⟩⟩, ⟨(.ex 0), ⟨[(0, none), (1, none), (7, none), (8, none)]⟩, ⟨[.v I64, .v (.list (.pair I64 I64)), .un, .un, .un, .un, .un, .v (.obj 0), .v I64, .un, .un, .un, .un, .un, .un, .un, .un, .un, .un, .un, .un, .un, .un, .un, .un, .un, .un, .un, .un, .un, .un, .un, .un, .un, .un, .un, .un, .un, .un, .un, .un, .un, .un, .un, .un, .un, .un, .un, .un, .un, .un, .un, .un, .un, .un, .un, .un, .un, .un, .un, .un, .un, .un, .un, .un, .un, .un, .un, .un, .un, .un, .un, .un, .un, .un, .un, .un, .un, .un, .un, .un, .un, .un, .un, .un, .un, .un, .un, .un, .un, .un, .un, .un, .un, .un, .un, .un, .un, .un, .un, .un, .un, .un, .un, .un, .un, .un, .un, .un, .un, .un, .un, .un, .un, .un, .un, .un, .un, .un, .un, .un, .un, .un, .un, .un, .un, .un, .un, .un, .un, .un, .un, .un, .un, .un, .un, .un, .un, .un, .un, .un, .un, .un, .un, .un, .un, .un, .un, .un, .un, .un, .un, .un, .un, .un, .un, .un, .un, .un, .un, .un, .un, .un, .un, .un, .un, .un, .un, .un, .un, .un, .un, .un, .un, .un, .un, .un, .un, .un, .un, .un, .un, .un, .un, .un, .un, .un, .un, .un, .un, .un, .un, .un, .un, .un], []⟩⟩]
abbrev V10 : Type := (Int × (List (Int × Int)) × (Option Gr) × Int × Int × Unit) × (Unit)
abbrev X10 : Type := ((Bool × Unit) × (Unit)) ⊕ ((Int × (List (Int × Int)) × (Option Gr) × Int × Unit) × (Unit))
noncomputable def R10 {R : Type} (n0 : Int) (pairs1 : (List (Int × Int))) (g7 : (Option Gr)) (all8 : Int) (v9 : Int) (k : V10 → Option R) (kx : X10 → Option R) : Option R := (if Decidable.decide (v9 < n0) = Bool.true then (if Neighbours.pre g7 v9 = Bool.true then (if Degree.pre g7 v9 = Bool.true then (if ((Degree.fn g7 v9).1 != (↑(List.length (Neighbours.fn g7 v9).1) : Int)) = Bool.false then (if Has.pre g7 v9 v9 = Bool.true then (if (Has.fn g7 v9 v9).1 = Bool.true then kx (Sum.inl <| ((Bool.false, ()), (())))
 else (match F17 (n0) (pairs1) (g7) (IntKind.wrap .i64 (all8 + (↑(List.length (Neighbours.fn g7 v9).1) : Int))) (v9) ((Neighbours.fn g7 v9).1) ((0 : Int)) with
  | some (Sum.inl <| ((t4_1, _), _)) => kx (Sum.inl <| ((t4_1, ()), (())))
  | some (Sum.inr <| ((n0_2, pairs1_2, g7_2, all8_2, v9_2, _), _)) => k ((n0_2, pairs1_2, g7_2, all8_2, IntKind.wrap .i64 (v9_2 + (1 : Int)), ()), (()))
  | none => none))
 else none)
 else kx (Sum.inl <| ((Bool.false, ()), (()))))
 else none)
 else none)
 else kx (Sum.inr <| ((n0, pairs1, g7, all8, ()), (()))))
noncomputable def rd10 : Rd (VO s10) (Xs x10) := fun v k kx => match v with
  | ((n0, pairs1, g7, all8, v9, _), _) => R10 n0 pairs1 g7 all8 v9 k kx
noncomputable def F10 (n0 : Int) (pairs1 : (List (Int × Int))) (g7 : (Option Gr)) (all8 : Int) (v9 : Int) : Option X10 := finOf rd10 ((n0, pairs1, g7, all8, v9, ()), (()))
theorem F10_inv {n0 : Int} {pairs1 : (List (Int × Int))} {g7 : (Option Gr)} (I : Int → Int → Prop) (μ : Int → Int → Nat) (Q : X10 → Prop) (h : ∀ (all8 : Int) (v9 : Int), I all8 v9 → Led (fun (R : Type) (k : V10 → Option R) (kx : X10 → Option R) => R10 n0 pairs1 g7 all8 v9 k kx) (fun v => ∃ (all8' : Int) (v9' : Int), v = ((n0, pairs1, g7, all8', v9', ()), ()) ∧ I all8' v9' ∧ μ all8' v9' < μ all8 v9) Q) : ∀ (all8 : Int) (v9 : Int), I all8 v9 → ∃ z, F10 n0 pairs1 g7 all8 v9 = some z ∧ Q z := fun all8 v9 hi => by
  refine finOf_inv (V := V10) (X := X10) (rd := rd10) (fun v => ∃ (all8' : Int) (v9' : Int), v = ((n0, pairs1, g7, all8', v9', ()), ()) ∧ I all8' v9') (fun v => match v with
    | ((n0, pairs1, g7, all8, v9, _), _) => μ all8 v9) Q (fun v hv => ?_) ((n0, pairs1, g7, all8, v9, ()), ()) ⟨all8, v9, rfl, hi⟩
  obtain ⟨all8, v9, rfl, hi⟩ := hv
  refine led_mono (h all8 v9 hi) ?_ (fun _ q => q)
  rintro v ⟨all8', v9', rfl, h1, h2⟩
  exact ⟨⟨all8', v9', rfl, h1⟩, h2⟩
noncomputable def L10 : Lp := ⟨10, ⟨[(0, none), (1, none), (7, none), (8, none), (9, none)]⟩, s10, x10, fun v => match v with
  | ((n0, pairs1, g7, all8, v9, _), _) => F10 n0 pairs1 g7 all8 v9⟩
theorem ends10 : Ends L10 rd10 := ends_fin (fun v => by
  obtain ⟨⟨n0, pairs1, g7, all8, v9, _⟩, ⟨_⟩⟩ := v
  rfl)
abbrev s24 : Shape := ⟨[.v I64, .v (.list (.pair I64 I64)), .un, .un, .un, .un, .un, .v (.obj 0), .v I64, .un, .un, .un, .un, .un, .v I64, .un, .un, .un, .un, .un, .un, .un, .un, .un, .un, .un, .un, .un, .un, .un, .un, .un, .un, .un, .un, .un, .un, .un, .un, .un, .un, .un, .un, .un, .un, .un, .un, .un, .un, .un, .un, .un, .un, .un, .un, .un, .un, .un, .un, .un, .un, .un, .un, .un, .un, .un, .un, .un, .un, .un, .un, .un, .un, .un, .un, .un, .un, .un, .un, .un, .un, .un, .un, .un, .un, .un, .un, .un, .un, .un, .un, .un, .un, .un, .un, .un, .un, .un, .un, .un, .un, .un, .un, .un, .un, .un, .un, .un, .un, .un, .un, .un, .un, .un, .un, .un, .un, .un, .un, .un, .un, .un, .un, .un, .un, .un, .un, .un, .un, .un, .un, .un, .un, .un, .un, .un, .un, .un, .un, .un, .un, .un, .un, .un, .un, .un, .un, .un, .un, .un, .un, .un, .un, .un, .un, .un, .un, .un, .un, .un, .un, .un, .un, .un, .un, .un, .un, .un, .un, .un, .un, .un, .un, .un, .un, .un, .un, .un, .un, .un, .un, .un, .un, .un, .un, .un, .un, .un, .un, .un, .un, .un, .un, .un, .un], []⟩
abbrev x24 : List Way := [⟨.rt, ⟨[(4, none)]⟩, ⟨[.un, .un, .un, .un, .v .bool, .un, .un, .un, .un, .un, .un, .un, .un, .un, .un, .un, .un, .un, .un, .un, .un, .un, .un, .un, .un, .un, .un, .un, .un, .un, .un, .un, .un, .un, .un, .un, .un, .un, .un, .un, .un, .un, .un, .un, .un, .un, .un, .un, .un, .un, .un, .un, .un, .un, .un, .un, .un, .un, .un, .un, .un, .un, .un, .un, .un, .un, .un, .un, .un, .un, .un, .un, .un, .un, .un, .un, .un, .un, .un, .un, .un, .un, .un, .un, .un, .un, .un, .un, .un, .un, .un, .un, .un, .un, .un, .un, .un, .un, .un, .un, .un, .un, .un, .un, .un, .un, .un, .un, .un, .un, .un, .un, .un, .un, .un, .un, .un, .un, .un, .un, .un, .un, .un, .un, .un, .un, .un, .un, .un, .un, .un, .un, .un, .un, .un, .un, .un, .un, .un, .un, .un, .un, .un, .un, .un, .un, .un, .un, .un, .un, .un, .un, .un, .un, .un, .un, .un, .un, .un, .un, .un, .un, .un, .un, .un, .un, .un, .un, .un, .un, .un, .un, .un, .un, .un, .un, .un, .un, .un, .un, .un, .un, .un, .un, .un, .un, .un, .un, .un, .un, .un, .un, .un, .un, .un], []⟩⟩, ⟨(.ex 4), ⟨[(0, none), (7, none), (8, none)]⟩, ⟨[.v I64, .un, .un, .un, .un, .un, .un, .v (.obj 0), .v I64, .un, .un, .un, .un, .un, .un, .un, .un, .un, .un, .un, .un, .un, .un, .un, .un, .un, .un, .un, .un, .un, .un, .un, .un, .un, .un, .un, .un, .un, .un, .un, .un, .un, .un, .un, .un, .un, .un, .un, .un, .un, .un, .un, .un, .un, .un, .un, .un, .un, .un, .un, .un, .un, .un, .un, .un, .un, .un, .un, .un, .un, .un, .un, .un, .un, .un, .un, .un, .un, .un, .un, .un, .un, .un, .un, .un, .un, .un, .un, .un, .un, .un, .un, .un, .un, .un, .un, .un, .un, .un, .un, .un, .un, .un, .un, .un, .un, .un, .un, .un, .un, .un, .un, .un, .un, .un, .un, .un, .un, .un, .un, .un, .un, .un, .un, .un, .un, .un, .un, .un, .un, .un, .un, .un, .un, .un, .un, .un, .un, .un, .un, .un, .un, .un, .un, .un, .un, .un, .un, .un, .un, .un, .un, .un, .un, .un, .un, .un, .un, .un, .un, .un, .un, .un, .un, .un, .un, .un, .un, .un, .un, .un, .un, .un, .un, .un, .un, .un, .un, .un, .un, .un, .un, .un, .un, .un, .un, .un, .un, .un, .un, .un, .un, .un, .un, .un], []⟩⟩]
abbrev V24 : Type := (Int × (List (Int × Int)) × (Option Gr) × Int × Int × Unit) × (Unit)
abbrev X24 : Type := ((Bool × Unit) × (Unit)) ⊕ ((Int × (Option Gr) × Int × Unit) × (Unit))
noncomputable def R24 {R : Type} (n0 : Int) (pairs1 : (List (Int × Int))) (g7 : (Option Gr)) (all8 : Int) (i14 : Int) (k : V24 → Option R) (kx : X24 → Option R) : Option R := (if Decidable.decide (i14 < (↑(List.length pairs1) : Int)) = Bool.true then (if (0 : Int) ≤ i14 then (if i14 < (↑(List.length pairs1) : Int) then (if (0 : Int) ≤ i14 then (if i14 < (↑(List.length pairs1) : Int) then (if ((List.getD pairs1 (Int.toNat i14) ((0 : Int), (0 : Int))).1 != (List.getD pairs1 (Int.toNat i14) ((0 : Int), (0 : Int))).2) = Bool.true then (if (0 : Int) ≤ i14 then (if i14 < (↑(List.length pairs1) : Int) then (if (0 : Int) ≤ i14 then (if i14 < (↑(List.length pairs1) : Int) then (if Has.pre g7 (List.getD pairs1 (Int.toNat i14) ((0 : Int), (0 : Int))).1 (List.getD pairs1 (Int.toNat i14) ((0 : Int), (0 : Int))).2 = Bool.true then (if (!(Has.fn g7 (List.getD pairs1 (Int.toNat i14) ((0 : Int), (0 : Int))).1 (List.getD pairs1 (Int.toNat i14) ((0 : Int), (0 : Int))).2).1) = Bool.true then kx (Sum.inl <| ((Bool.false, ()), (())))
 else k ((n0, pairs1, g7, all8, IntKind.wrap .i64 (i14 + (1 : Int)), ()), (())))
 else none)
 else none)
 else none)
 else none)
 else none)
 else k ((n0, pairs1, g7, all8, IntKind.wrap .i64 (i14 + (1 : Int)), ()), (())))
 else none)
 else none)
 else none)
 else none)
 else kx (Sum.inr <| ((n0, g7, all8, ()), (()))))
noncomputable def rd24 : Rd (VO s24) (Xs x24) := fun v k kx => match v with
  | ((n0, pairs1, g7, all8, i14, _), _) => R24 n0 pairs1 g7 all8 i14 k kx
noncomputable def F24 (n0 : Int) (pairs1 : (List (Int × Int))) (g7 : (Option Gr)) (all8 : Int) (i14 : Int) : Option X24 := finOf rd24 ((n0, pairs1, g7, all8, i14, ()), (()))
theorem F24_inv {n0 : Int} {pairs1 : (List (Int × Int))} {g7 : (Option Gr)} {all8 : Int} (I : Int → Prop) (μ : Int → Nat) (Q : X24 → Prop) (h : ∀ (i14 : Int), I i14 → Led (fun (R : Type) (k : V24 → Option R) (kx : X24 → Option R) => R24 n0 pairs1 g7 all8 i14 k kx) (fun v => ∃ (i14' : Int), v = ((n0, pairs1, g7, all8, i14', ()), ()) ∧ I i14' ∧ μ i14' < μ i14) Q) : ∀ (i14 : Int), I i14 → ∃ z, F24 n0 pairs1 g7 all8 i14 = some z ∧ Q z := fun i14 hi => by
  refine finOf_inv (V := V24) (X := X24) (rd := rd24) (fun v => ∃ (i14' : Int), v = ((n0, pairs1, g7, all8, i14', ()), ()) ∧ I i14') (fun v => match v with
    | ((n0, pairs1, g7, all8, i14, _), _) => μ i14) Q (fun v hv => ?_) ((n0, pairs1, g7, all8, i14, ()), ()) ⟨i14, rfl, hi⟩
  obtain ⟨i14, rfl, hi⟩ := hv
  refine led_mono (h i14 hi) ?_ (fun _ q => q)
  rintro v ⟨i14', rfl, h1, h2⟩
  exact ⟨⟨i14', rfl, h1⟩, h2⟩
noncomputable def L24 : Lp := ⟨24, ⟨[(0, none), (1, none), (7, none), (8, none), (14, none)]⟩, s24, x24, fun v => match v with
  | ((n0, pairs1, g7, all8, i14, _), _) => F24 n0 pairs1 g7 all8 i14⟩
theorem ends24 : Ends L24 rd24 := ends_fin (fun v => by
  obtain ⟨⟨n0, pairs1, g7, all8, i14, _⟩, ⟨_⟩⟩ := v
  rfl)
abbrev s30 : Shape := ⟨[.v I64, .un, .un, .un, .un, .un, .un, .v (.obj 0), .v I64, .un, .un, .un, .un, .un, .un, .v (.list (.pair I64 I64)), .v I64, .un, .un, .un, .un, .un, .un, .un, .un, .un, .un, .un, .un, .un, .un, .un, .un, .un, .un, .un, .un, .un, .un, .un, .un, .un, .un, .un, .un, .un, .un, .un, .un, .un, .un, .un, .un, .un, .un, .un, .un, .un, .un, .un, .un, .un, .un, .un, .un, .un, .un, .un, .un, .un, .un, .un, .un, .un, .un, .un, .un, .un, .un, .un, .un, .un, .un, .un, .un, .un, .un, .un, .un, .un, .un, .un, .un, .un, .un, .un, .un, .un, .un, .un, .un, .un, .un, .un, .un, .un, .un, .un, .un, .un, .un, .un, .un, .un, .un, .un, .un, .un, .un, .un, .un, .un, .un, .un, .un, .un, .un, .un, .un, .un, .un, .un, .un, .un, .un, .un, .un, .un, .un, .un, .un, .un, .un, .un, .un, .un, .un, .un, .un, .un, .un, .un, .un, .un, .un, .un, .un, .un, .un, .un, .un, .un, .un, .un, .un, .un, .un, .un, .un, .un, .un, .un, .un, .un, .un, .un, .un, .un, .un, .un, .un, .un, .un, .un, .un, .un, .un, .un, .un, .un, .un, .un, .un, .un, .un], []⟩
abbrev x30 : List Way := [⟨.rt, ⟨[(4, none)]⟩, ⟨[.un, .un, .un, .un, .v .bool, .un, .un, .un, .un, .un, .un, .un, .un, .un, .un, .un, .un, .un, .un, .un, .un, .un, .un, .un, .un, .un, .un, .un, .un, .un, .un, .un, .un, .un, .un, .un, .un, .un, .un, .un, .un, .un, .un, .un, .un, .un, .un, .un, .un, .un, .un, .un, .un, .un, .un, .un, .un, .un, .un, .un, .un, .un, .un, .un, .un, .un, .un, .un, .un, .un, .un, .un, .un, .un, .un, .un, .un, .un, .un, .un, .un, .un, .un, .un, .un, .un, .un, .un, .un, .un, .un, .un, .un, .un, .un, .un, .un, .un, .un, .un, .un, .un, .un, .un, .un, .un, .un, .un, .un, .un, .un, .un, .un, .un, .un, .un, .un, .un, .un, .un, .un, .un, .un, .un, .un, .un, .un, .un, .un, .un, .un, .un, .un, .un, .un, .un, .un, .un, .un, .un, .un, .un, .un, .un, .un, .un, .un, .un, .un, .un, .un, .un, .un, .un, .un, .un, .un, .un, .un, .un, .un, .un, .un, .un, .un, .un, .un, .un, .un, .un, .un, .un, .un, .un, .un, .un, .un, .un, .un, .un, .un, .un, .un, .un, .un, .un, .un, .un, .un, .un, .un, .un, .un, .un, .un], []⟩⟩, ⟨(.ex 6), ⟨[(0, none), (7, none), (8, none), (15, none)]⟩, ⟨[.v I64, .un, .un, .un, .un, .un, .un, .v (.obj 0), .v I64, .un, .un, .un, .un, .un, .un, .v (.list (.pair I64 I64)), .un, .un, .un, .un, .un, .un, .un, .un, .un, .un, .un, .un, .un, .un, .un, .un, .un, .un, .un, .un, .un, .un, .un, .un, .un, .un, .un, .un, .un, .un, .un, .un, .un, .un, .un, .un, .un, .un, .un, .un, .un, .un, .un, .un, .un, .un, .un, .un, .un, .un, .un, .un, .un, .un, .un, .un, .un, .un, .un, .un, .un, .un, .un, .un, .un, .un, .un, .un, .un, .un, .un, .un, .un, .un, .un, .un, .un, .un, .un, .un, .un, .un, .un, .un, .un, .un, .un, .un, .un, .un, .un, .un, .un, .un, .un, .un, .un, .un, .un, .un, .un, .un, .un, .un, .un, .un, .un, .un, .un, .un, .un, .un, .un, .un, .un, .un, .un, .un, .un, .un, .un, .un, .un, .un, .un, .un, .un, .un, .un, .un, .un, .un, .un, .un, .un, .un, .un, .un, .un, .un, .un, .un, .un, .un, .un, .un, .un, .un, .un, .un, .un, .un, .un, .un, .un, .un, .un, .un, .un, .un, .un, .un, .un, .un, .un, .un, .un, .un, .un, .un, .un, .un, .un, .un, .un, .un, .un, .un, .un], []⟩⟩]
abbrev V30 : Type := (Int × (Option Gr) × Int × (List (Int × Int)) × Int × Unit) × (Unit)
abbrev X30 : Type := ((Bool × Unit) × (Unit)) ⊕ ((Int × (Option Gr) × Int × (List (Int × Int)) × Unit) × (Unit))
noncomputable def R30 {R : Type} (n0 : Int) (g7 : (Option Gr)) (all8 : Int) (l15 : (List (Int × Int))) (i16 : Int) (k : V30 → Option R) (kx : X30 → Option R) : Option R := (if Decidable.decide (i16 < (↑(List.length l15) : Int)) = Bool.true then (if (0 : Int) ≤ i16 then (if i16 < (↑(List.length l15) : Int) then (if (0 : Int) ≤ i16 then (if i16 < (↑(List.length l15) : Int) then (if Has.pre g7 (List.getD l15 (Int.toNat i16) ((0 : Int), (0 : Int))).1 (List.getD l15 (Int.toNat i16) ((0 : Int), (0 : Int))).2 = Bool.true then (if (!(Has.fn g7 (List.getD l15 (Int.toNat i16) ((0 : Int), (0 : Int))).1 (List.getD l15 (Int.toNat i16) ((0 : Int), (0 : Int))).2).1) = Bool.false then (if (0 : Int) ≤ i16 then (if i16 < (↑(List.length l15) : Int) then (if (0 : Int) ≤ i16 then (if i16 < (↑(List.length l15) : Int) then (if Decidable.decide ((List.getD l15 (Int.toNat i16) ((0 : Int), (0 : Int))).1 ≥ (List.getD l15 (Int.toNat i16) ((0 : Int), (0 : Int))).2) = Bool.true then kx (Sum.inl <| ((Bool.false, ()), (())))
 else k ((n0, g7, all8, l15, IntKind.wrap .i64 (i16 + (1 : Int)), ()), (())))
 else none)
 else none)
 else none)
 else none)
 else kx (Sum.inl <| ((Bool.false, ()), (()))))
 else none)
 else none)
 else none)
 else none)
 else none)
 else kx (Sum.inr <| ((n0, g7, all8, l15, ()), (()))))
noncomputable def rd30 : Rd (VO s30) (Xs x30) := fun v k kx => match v with
  | ((n0, g7, all8, l15, i16, _), _) => R30 n0 g7 all8 l15 i16 k kx
noncomputable def F30 (n0 : Int) (g7 : (Option Gr)) (all8 : Int) (l15 : (List (Int × Int))) (i16 : Int) : Option X30 := finOf rd30 ((n0, g7, all8, l15, i16, ()), (()))
theorem F30_inv {n0 : Int} {g7 : (Option Gr)} {all8 : Int} {l15 : (List (Int × Int))} (I : Int → Prop) (μ : Int → Nat) (Q : X30 → Prop) (h : ∀ (i16 : Int), I i16 → Led (fun (R : Type) (k : V30 → Option R) (kx : X30 → Option R) => R30 n0 g7 all8 l15 i16 k kx) (fun v => ∃ (i16' : Int), v = ((n0, g7, all8, l15, i16', ()), ()) ∧ I i16' ∧ μ i16' < μ i16) Q) : ∀ (i16 : Int), I i16 → ∃ z, F30 n0 g7 all8 l15 i16 = some z ∧ Q z := fun i16 hi => by
  refine finOf_inv (V := V30) (X := X30) (rd := rd30) (fun v => ∃ (i16' : Int), v = ((n0, g7, all8, l15, i16', ()), ()) ∧ I i16') (fun v => match v with
    | ((n0, g7, all8, l15, i16, _), _) => μ i16) Q (fun v hv => ?_) ((n0, g7, all8, l15, i16, ()), ()) ⟨i16, rfl, hi⟩
  obtain ⟨i16, rfl, hi⟩ := hv
  refine led_mono (h i16 hi) ?_ (fun _ q => q)
  rintro v ⟨i16', rfl, h1, h2⟩
  exact ⟨⟨i16', rfl, h1⟩, h2⟩
noncomputable def L30 : Lp := ⟨30, ⟨[(0, none), (7, none), (8, none), (15, none), (16, none)]⟩, s30, x30, fun v => match v with
  | ((n0, g7, all8, l15, i16, _), _) => F30 n0 g7 all8 l15 i16⟩
theorem ends30 : Ends L30 rd30 := ends_fin (fun v => by
  obtain ⟨⟨n0, g7, all8, l15, i16, _⟩, ⟨_⟩⟩ := v
  rfl)
noncomputable def env : Env := mkEnv tab [(31, first5.sig), (32, fine.sig), (33, graphOf.sig), (35, Pairs.sig), (38, Neighbours.sig), (41, Has.sig), (45, Edges.sig), (46, Degree.sig), (47, Arcs.sig)] 0 [(21, [0, 1, 2, 3, 4, 5, 6, 7, 8, 9, 10, 11, 12, 13, 14, 15, 16, 17, 18, 19, 20, 21, 22, 23, 24, 25, 26, 27, 28, 29]), (26, [0, 1, 2, 3, 4, 5, 6, 7, 8, 9, 10, 11, 12, 13, 14, 15, 16, 17, 18, 19, 20, 21, 22, 23, 24, 25]), (32, [0, 1, 2, 3, 4, 5, 6, 7, 8, 9, 10, 11, 12]), (33, [0, 1, 2, 3, 4, 5, 6, 7, 8, 9, 10, 11, 12, 13, 14])] [L17, L10, L24, L30]
theorem round17 : RoundIs env (sub [true, true, true, true, true, true, true, false, true, false, false, true, false, false, true, true, true, true, false, false] code) L17 rd17 := fun R v k kx => by kernel_rfl
theorem round10 : RoundIs env (sub [true, true, true, true, true, true, true, false, true, false, false] code) L10 rd10 := fun R v k kx => by kernel_rfl
theorem round24 : RoundIs env (sub [true, true, true, true, true, true, true, true, false, true, false, false] code) L24 rd24 := fun R v k kx => by kernel_rfl
theorem round30 : RoundIs env (sub [true, true, true, true, true, true, true, true, true, true, false, true, false, false] code) L30 rd30 := fun R v k kx => by kernel_rfl
abbrev D : Type := (Bool × Unit)
noncomputable def run' (n0 : Int) (pairs1 : (List (Int × Int))) : Option D := (if first5.pre = Bool.true then (if fine.pre n0 pairs1 = Bool.true then (if (!first5.fn.1) = Bool.false then (if (!(fine.fn n0 pairs1).1) = Bool.true then some (first5.fn.1, ())
 else (if graphOf.pre n0 pairs1 = Bool.true then (if Option.isNone (graphOf.fn n0 pairs1).1 = Bool.true then some (Bool.false, ())
 else (match F10 (n0) (pairs1) ((graphOf.fn n0 pairs1).1) ((0 : Int)) ((0 : Int)) with
  | some (Sum.inl <| ((t4_3, _), _)) => some (t4_3, ())
  | some (Sum.inr <| ((n0_4, pairs1_4, g7_4, all8_4, _), _)) => (match F24 (n0_4) (pairs1_4) (g7_4) (all8_4) ((0 : Int)) with
  | some (Sum.inl <| ((t4_5, _), _)) => some (t4_5, ())
  | some (Sum.inr <| ((n0_6, g7_6, all8_6, _), _)) => (if Pairs.pre g7_6 = Bool.true then (match F30 (n0_6) (g7_6) (all8_6) ((Pairs.fn g7_6).1) ((0 : Int)) with
  | some (Sum.inl <| ((t4_7, _), _)) => some (t4_7, ())
  | some (Sum.inr <| ((n0_8, g7_8, all8_8, l15_8, _), _)) => (if Edges.pre g7_8 = Bool.true then (if (all8_8 == IntKind.wrap .i64 ((2 : Int) * (Edges.fn g7_8).1)) = Bool.true then (if Arcs.pre g7_8 (0 : Int) n0_8 = Bool.true then (if ((↑(List.length (Arcs.fn g7_8 (0 : Int) n0_8).1) : Int) == all8_8) = Bool.true then (if Edges.pre g7_8 = Bool.true then some ((↑(List.length l15_8) : Int) == (Edges.fn g7_8).1, ())
 else none)
 else some (Bool.false, ()))
 else none)
 else some (Bool.false, ()))
 else none)
  | none => none)
 else none)
  | none => none)
  | none => none))
 else none))
 else some (first5.fn.1, ()))
 else none)
 else none)
noncomputable def run (d : Ds (List.map PM.ty ps)) : Option (Ds (muts ps ++ List.map PM.ty rs)) := match d with
  | (n0, pairs1, _) => run' n0 pairs1
theorem run_is : ∀ d, runF env 195 code [4] ps rs d = run d := fun d => by kernel_rfl
theorem loops : LoopsOk env code := loopsOk_of (l := [[true, true, true, true, true, true, true, false, true, false, false], [true, true, true, true, true, true, true, false, true, false, false, true, false, false, true, true, true, true, false, false], [true, true, true, true, true, true, true, true, false, true, false, false], [true, true, true, true, true, true, true, true, true, true, false, true, false, false]]) (by kernel_rfl) (fun p hp => by
  simp only [List.mem_cons, List.not_mem_nil, or_false] at hp
  rcases hp with rfl | rfl | rfl | rfl
  · exact loopOk_lp (L := L10) (x := sub [true, true, true, true, true, true, true, false, true, false, false] code) (by kernel_rfl) (by simp [L10]) round10 ends10
  · exact loopOk_lp (L := L17) (x := sub [true, true, true, true, true, true, true, false, true, false, false, true, false, false, true, true, true, true, false, false] code) (by kernel_rfl) (by simp [L17]) round17 ends17
  · exact loopOk_lp (L := L24) (x := sub [true, true, true, true, true, true, true, true, false, true, false, false] code) (by kernel_rfl) (by simp [L24]) round24 ends24
  · exact loopOk_lp (L := L30) (x := sub [true, true, true, true, true, true, true, true, true, true, false, true, false, false] code) (by kernel_rfl) (by simp [L30]) round30 ends30
  )
noncomputable def pre (n0 : Int) (pairs1 : (List (Int × Int))) : Bool := (run' n0 pairs1).isSome
noncomputable def fn (n0 : Int) (pairs1 : (List (Int × Int))) : D := match run' n0 pairs1 with
  | some x => x
  | none => default
noncomputable def sig : Sig := ⟨ps, rs, fun d => match d with
  | (n0, pairs1, _) => pre n0 pairs1, fun d => match d with
  | (n0, pairs1, _) => fn n0 pairs1⟩
theorem run_fn (n0 : Int) (pairs1 : (List (Int × Int))) (h : pre n0 pairs1 = true) : run' n0 pairs1 = some (fn n0 pairs1) := by
  unfold pre at h
  unfold fn
  cases e : run' n0 pairs1 with
  | some x => rfl
  | none => rw [e] at h; cases h
theorem is_fn (n0 : Int) (pairs1 : (List (Int × Int))) {x : D} (h : run' n0 pairs1 = some x) : pre n0 pairs1 = true ∧ fn n0 pairs1 = x := by
  unfold pre fn
  rw [h]
  exact ⟨rfl, rfl⟩
theorem sound {ρ : Obs} (hE : EnvOk Go.Proofs.Try.prog ρ env) : Sound Go.Proofs.Try.prog ρ 8 sig := sound_of (fn := Go.Proofs.Try.f8) (c := code) (res := [4]) hE (by kernel_rfl) (by kernel_rfl) (by kernel_rfl) (by kernel_rfl) (by kernel_rfl) loops rfl (show 2 ≤ 195 by decide) (fun d hd => (run_is d).trans (by
  obtain ⟨n0, pairs1, _⟩ := d
  exact run_fn n0 pairs1 hd))
theorem enters : Enters Go.Proofs.Try.prog 8 := enters_of (fn := Go.Proofs.Try.f8) (by kernel_rfl) (by kernel_rfl) (by kernel_rfl)
theorem ok {ρ : Obs} (h : ∀ p ∈ ([(31, first5.sig), (32, fine.sig), (33, graphOf.sig), (35, Pairs.sig), (38, Neighbours.sig), (41, Has.sig), (45, Edges.sig), (46, Degree.sig), (47, Arcs.sig)] : List (FuncId × Sig)), Enters Go.Proofs.Try.prog p.1 ∧ Sound Go.Proofs.Try.prog ρ p.1 p.2) : Enters Go.Proofs.Try.prog 8 ∧ Sound Go.Proofs.Try.prog ρ 8 sig := ⟨enters, sound (envOk_of tabOk h)⟩
theorem okR : Enters Go.Proofs.Try.prog 8 ∧ Sound Go.Proofs.Try.prog rho 8 sig := ok (fun p hp => by
  simp only [List.mem_cons, List.not_mem_nil, or_false] at hp
  rcases hp with rfl | rfl | rfl | rfl | rfl | rfl | rfl | rfl | rfl
  · exact first5.okR
  · exact fine.okR
  · exact graphOf.okR
  · exact Pairs.okR
  · exact Neighbours.okR
  · exact Has.okR
  · exact Edges.okR
  · exact Degree.okR
  · exact Arcs.okR)
end GraphBoth
end Go.Proofs.Ythbojpaghbbnnaa.Z
