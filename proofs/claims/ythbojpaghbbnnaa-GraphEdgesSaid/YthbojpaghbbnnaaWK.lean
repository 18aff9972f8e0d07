/- What functions compute from plain values: GraphEdges. Printed by a small program of ours (zgen, zg.py); no condition. -/
import Derived.Test.YthbojpaghbbnnaaZN
import Derived.Test.YthbojpaghbbnnaaZT
import Derived.Test.YthbojpaghbbnnaaZP
import Derived.Test.YthbojpaghbbnnaaZS
import Derived.Test.YthbojpaghbbnnaaWF
import Derived.KernelRfl
namespace Go.Proofs.Ythbojpaghbbnnaa.Z
open Go Go.RowKit
set_option linter.unusedVariables false
set_option linter.unusedSimpArgs false
/-! pith/pithlaw5.GraphEdges -/
namespace GraphEdges
abbrev ps : List PM := [.val I64, .val (.list Pr), .val (.list .bool), .val (.list I64)]
abbrev rs : List PM := [.val .bool]
noncomputable abbrev code : Code := (Go.Proofs.Try.f4.body.getD .skip)
abbrev s10 : Shape := ⟨[.v I64, .un, .v (.list .bool), .v (.list I64), .un, .un, .un, .un, .un, .un, .un, .v (.obj 0), .row 0, .v I64, .un, .un, .un, .un, .un, .un, .un, .un, .un, .un, .un, .un, .un, .un, .un, .un, .un, .un, .un, .un, .un, .un, .un, .un, .un, .un, .un, .un, .un, .un, .un, .un, .un, .un, .un, .un, .un, .un, .un, .un, .un, .un, .un, .un, .un, .un, .un, .un, .un, .un, .un, .un, .un, .un, .un, .un, .un, .un, .un, .un, .un, .un, .un, .un, .un, .un, .un, .un, .un, .un, .un, .un, .un, .un, .un, .un, .un, .un, .un, .un, .un, .un, .un, .un, .un, .un, .un, .un, .un, .un, .un, .un, .un, .un, .un, .un, .un, .un, .un, .un, .un, .un, .un, .un, .un, .un, .un, .un, .un, .un, .un, .un, .un, .un, .un, .un, .un, .un, .un, .un, .un, .un, .un, .un, .un, .un, .un, .un, .un, .un, .un, .un, .un, .un, .un, .un, .un, .un, .un, .un, .un, .un, .un, .un, .un], [.row (32 : Go.TypeId) (.pair I64 I64)]⟩
abbrev x10 : List Way := [⟨(.ex 0), ⟨[(0, none), (2, none), (11, none), (12, none)]⟩, ⟨[.v I64, .un, .v (.list .bool), .un, .un, .un, .un, .un, .un, .un, .un, .v (.obj 0), .row 0, .un, .un, .un, .un, .un, .un, .un, .un, .un, .un, .un, .un, .un, .un, .un, .un, .un, .un, .un, .un, .un, .un, .un, .un, .un, .un, .un, .un, .un, .un, .un, .un, .un, .un, .un, .un, .un, .un, .un, .un, .un, .un, .un, .un, .un, .un, .un, .un, .un, .un, .un, .un, .un, .un, .un, .un, .un, .un, .un, .un, .un, .un, .un, .un, .un, .un, .un, .un, .un, .un, .un, .un, .un, .un, .un, .un, .un, .un, .un, .un, .un, .un, .un, .un, .un, .un, .un, .un, .un, .un, .un, .un, .un, .un, .un, .un, .un, .un, .un, .un, .un, .un, .un, .un, .un, .un, .un, .un, .un, .un, .un, .un, .un, .un, .un, .un, .un, .un, .un, .un, .un, .un, .un, .un, .un, .un, .un, .un, .un, .un, .un, .un, .un, .un, .un, .un, .un, .un, .un, .un, .un, .un, .un, .un, .un, .un], [.row (32 : Go.TypeId) (.pair I64 I64)]⟩⟩]
abbrev V10 : Type := (Int × (List Bool) × (List Int) × (Option Gr) × Int × Unit) × ((List (Int × Int)) × Unit)
abbrev X10 : Type := (Int × (List Bool) × (Option Gr) × Unit) × ((List (Int × Int)) × Unit)
noncomputable def R10 {R : Type} (n0 : Int) (turn2 : (List Bool)) (order3 : (List Int)) (g11 : (Option Gr)) (i13 : Int) (r0 : List (Int × Int)) (k : V10 → Option R) (kx : X10 → Option R) : Option R := (if Decidable.decide (i13 < (↑(List.length r0) : Int)) = Bool.true then (if Decidable.decide (i13 < (↑(List.length order3) : Int)) = Bool.true then (if (0 : Int) ≤ i13 then (if i13 < (↑(List.length order3) : Int) then (if (↑(List.length r0) : Int) = (0 : Int) then none
 else (if (↑(List.length r0) : Int) = (0 : Int) then none
 else (if (0 : Int) ≤ Int.tmod (IntKind.wrap .i64 (Int.tmod (List.getD order3 (Int.toNat i13) (0 : Int)) (↑(List.length r0) : Int) + (↑(List.length r0) : Int))) (↑(List.length r0) : Int) then (if Int.tmod (IntKind.wrap .i64 (Int.tmod (List.getD order3 (Int.toNat i13) (0 : Int)) (↑(List.length r0) : Int) + (↑(List.length r0) : Int))) (↑(List.length r0) : Int) < (↑(List.length r0) : Int) then (if (0 : Int) ≤ i13 then (if i13 < (↑(List.length r0) : Int) then (if (0 : Int) ≤ i13 then (if i13 < (↑(List.length r0) : Int) then (if Int.toNat i13 < List.length r0 then (if (0 : Int) ≤ Int.tmod (IntKind.wrap .i64 (Int.tmod (List.getD order3 (Int.toNat i13) (0 : Int)) (↑(List.length r0) : Int) + (↑(List.length r0) : Int))) (↑(List.length r0) : Int) then (if Int.tmod (IntKind.wrap .i64 (Int.tmod (List.getD order3 (Int.toNat i13) (0 : Int)) (↑(List.length r0) : Int) + (↑(List.length r0) : Int))) (↑(List.length r0) : Int) < (↑(List.length (List.set r0 (Int.toNat i13) (List.getD r0 (Int.toNat (Int.tmod (IntKind.wrap .i64 (Int.tmod (List.getD order3 (Int.toNat i13) (0 : Int)) (↑(List.length r0) : Int) + (↑(List.length r0) : Int))) (↑(List.length r0) : Int))) ((0 : Int), (0 : Int))))) : Int) then (if Int.toNat (Int.tmod (IntKind.wrap .i64 (Int.tmod (List.getD order3 (Int.toNat i13) (0 : Int)) (↑(List.length r0) : Int) + (↑(List.length r0) : Int))) (↑(List.length r0) : Int)) < List.length (List.set r0 (Int.toNat i13) (List.getD r0 (Int.toNat (Int.tmod (IntKind.wrap .i64 (Int.tmod (List.getD order3 (Int.toNat i13) (0 : Int)) (↑(List.length r0) : Int) + (↑(List.length r0) : Int))) (↑(List.length r0) : Int))) ((0 : Int), (0 : Int)))) then k ((n0, turn2, order3, g11, IntKind.wrap .i64 (i13 + (1 : Int)), ()), (List.set (List.set r0 (Int.toNat i13) (List.getD r0 (Int.toNat (Int.tmod (IntKind.wrap .i64 (Int.tmod (List.getD order3 (Int.toNat i13) (0 : Int)) (↑(List.length r0) : Int) + (↑(List.length r0) : Int))) (↑(List.length r0) : Int))) ((0 : Int), (0 : Int)))) (Int.toNat (Int.tmod (IntKind.wrap .i64 (Int.tmod (List.getD order3 (Int.toNat i13) (0 : Int)) (↑(List.length r0) : Int) + (↑(List.length r0) : Int))) (↑(List.length r0) : Int))) (List.getD r0 (Int.toNat i13) ((0 : Int), (0 : Int))), ()))
 else none)
 else none)
 else none)
 else none)
 else none)
 else none)
 else none)
 else none)
 else none)
 else none)))
 else none)
 else none)
 else kx (((n0, turn2, g11, ()), (r0, ()))))
 else kx (((n0, turn2, g11, ()), (r0, ()))))
noncomputable def rd10 : Rd (VO s10) (Xs x10) := fun v k kx => match v with
  | ((n0, turn2, order3, g11, i13, _), (r0, _)) => R10 n0 turn2 order3 g11 i13 r0 k kx
noncomputable def F10 (n0 : Int) (turn2 : (List Bool)) (order3 : (List Int)) (g11 : (Option Gr)) (i13 : Int) (r0 : List (Int × Int)) : Option X10 := finOf rd10 ((n0, turn2, order3, g11, i13, ()), (r0, ()))
theorem F10_inv {n0 : Int} {turn2 : (List Bool)} {order3 : (List Int)} {g11 : (Option Gr)} (I : Int → List (Int × Int) → Prop) (μ : Int → List (Int × Int) → Nat) (Q : X10 → Prop) (h : ∀ (i13 : Int) (r0 : List (Int × Int)), I i13 r0 → Led (fun (R : Type) (k : V10 → Option R) (kx : X10 → Option R) => R10 n0 turn2 order3 g11 i13 r0 k kx) (fun v => ∃ (i13' : Int) (r0' : List (Int × Int)), v = ((n0, turn2, order3, g11, i13', ()), (r0', ())) ∧ I i13' r0' ∧ μ i13' r0' < μ i13 r0) Q) : ∀ (i13 : Int) (r0 : List (Int × Int)), I i13 r0 → ∃ z, F10 n0 turn2 order3 g11 i13 r0 = some z ∧ Q z := fun i13 r0 hi => by
  refine finOf_inv (V := V10) (X := X10) (rd := rd10) (fun v => ∃ (i13' : Int) (r0' : List (Int × Int)), v = ((n0, turn2, order3, g11, i13', ()), (r0', ())) ∧ I i13' r0') (fun v => match v with
    | ((n0, turn2, order3, g11, i13, _), (r0, _)) => μ i13 r0) Q (fun v hv => ?_) ((n0, turn2, order3, g11, i13, ()), (r0, ())) ⟨i13, r0, rfl, hi⟩
  obtain ⟨i13, r0, rfl, hi⟩ := hv
  refine led_mono (h i13 r0 hi) ?_ (fun _ q => q)
  rintro v ⟨i13', r0', rfl, h1, h2⟩
  exact ⟨⟨i13', r0', rfl, h1⟩, h2⟩
noncomputable def L10 : Lp := ⟨10, ⟨[(0, none), (2, none), (3, none), (11, none), (12, none), (13, none)]⟩, s10, x10, fun v => match v with
  | ((n0, turn2, order3, g11, i13, _), (r0, _)) => F10 n0 turn2 order3 g11 i13 r0⟩
theorem ends10 : Ends L10 rd10 := ends_fin (fun v => by
  obtain ⟨⟨n0, turn2, order3, g11, i13, _⟩, ⟨r0, _⟩⟩ := v
  rfl)
abbrev s15 : Shape := ⟨[.v I64, .un, .v (.list .bool), .un, .un, .un, .un, .un, .un, .un, .un, .v (.obj 0), .row 0, .un, .un, .v I64, .un, .un, .un, .un, .un, .un, .un, .un, .un, .un, .un, .un, .un, .un, .un, .un, .un, .un, .un, .un, .un, .un, .un, .un, .un, .un, .un, .un, .un, .un, .un, .un, .un, .un, .un, .un, .un, .un, .un, .un, .un, .un, .un, .un, .un, .un, .un, .un, .un, .un, .un, .un, .un, .un, .un, .un, .un, .un, .un, .un, .un, .un, .un, .un, .un, .un, .un, .un, .un, .un, .un, .un, .un, .un, .un, .un, .un, .un, .un, .un, .un, .un, .un, .un, .un, .un, .un, .un, .un, .un, .un, .un, .un, .un, .un, .un, .un, .un, .un, .un, .un, .un, .un, .un, .un, .un, .un, .un, .un, .un, .un, .un, .un, .un, .un, .un, .un, .un, .un, .un, .un, .un, .un, .un, .un, .un, .un, .un, .un, .un, .un, .un, .un, .un, .un, .un, .un, .un, .un, .un, .un, .un, .un], [.row (32 : Go.TypeId) (.pair I64 I64)]⟩
abbrev x15 : List Way := [⟨(.ex 2), ⟨[(0, none), (11, none), (12, none)]⟩, ⟨[.v I64, .un, .un, .un, .un, .un, .un, .un, .un, .un, .un, .v (.obj 0), .row 0, .un, .un, .un, .un, .un, .un, .un, .un, .un, .un, .un, .un, .un, .un, .un, .un, .un, .un, .un, .un, .un, .un, .un, .un, .un, .un, .un, .un, .un, .un, .un, .un, .un, .un, .un, .un, .un, .un, .un, .un, .un, .un, .un, .un, .un, .un, .un, .un, .un, .un, .un, .un, .un, .un, .un, .un, .un, .un, .un, .un, .un, .un, .un, .un, .un, .un, .un, .un, .un, .un, .un, .un, .un, .un, .un, .un, .un, .un, .un, .un, .un, .un, .un, .un, .un, .un, .un, .un, .un, .un, .un, .un, .un, .un, .un, .un, .un, .un, .un, .un, .un, .un, .un, .un, .un, .un, .un, .un, .un, .un, .un, .un, .un, .un, .un, .un, .un, .un, .un, .un, .un, .un, .un, .un, .un, .un, .un, .un, .un, .un, .un, .un, .un, .un, .un, .un, .un, .un, .un, .un, .un, .un, .un, .un, .un, .un], [.row (32 : Go.TypeId) (.pair I64 I64)]⟩⟩]
abbrev V15 : Type := (Int × (List Bool) × (Option Gr) × Int × Unit) × ((List (Int × Int)) × Unit)
abbrev X15 : Type := (Int × (Option Gr) × Unit) × ((List (Int × Int)) × Unit)
noncomputable def R15 {R : Type} (n0 : Int) (turn2 : (List Bool)) (g11 : (Option Gr)) (i15 : Int) (r0 : List (Int × Int)) (k : V15 → Option R) (kx : X15 → Option R) : Option R := (if Decidable.decide (i15 < (↑(List.length r0) : Int)) = Bool.true then (if Decidable.decide (i15 < (↑(List.length turn2) : Int)) = Bool.true then (if (0 : Int) ≤ i15 then (if i15 < (↑(List.length turn2) : Int) then (if List.getD turn2 (Int.toNat i15) Bool.false = Bool.true then (if (0 : Int) ≤ i15 then (if i15 < (↑(List.length r0) : Int) then (if (0 : Int) ≤ i15 then (if i15 < (↑(List.length r0) : Int) then (if (0 : Int) ≤ i15 then (if i15 < (↑(List.length r0) : Int) then (if Int.toNat i15 < List.length r0 then k ((n0, turn2, g11, IntKind.wrap .i64 (i15 + (1 : Int)), ()), (List.set r0 (Int.toNat i15) ((List.getD r0 (Int.toNat i15) ((0 : Int), (0 : Int))).2, (List.getD r0 (Int.toNat i15) ((0 : Int), (0 : Int))).1), ()))
 else none)
 else none)
 else none)
 else none)
 else none)
 else none)
 else none)
 else k ((n0, turn2, g11, IntKind.wrap .i64 (i15 + (1 : Int)), ()), (r0, ())))
 else none)
 else none)
 else kx (((n0, g11, ()), (r0, ()))))
 else kx (((n0, g11, ()), (r0, ()))))
noncomputable def rd15 : Rd (VO s15) (Xs x15) := fun v k kx => match v with
  | ((n0, turn2, g11, i15, _), (r0, _)) => R15 n0 turn2 g11 i15 r0 k kx
noncomputable def F15 (n0 : Int) (turn2 : (List Bool)) (g11 : (Option Gr)) (i15 : Int) (r0 : List (Int × Int)) : Option X15 := finOf rd15 ((n0, turn2, g11, i15, ()), (r0, ()))
theorem F15_inv {n0 : Int} {turn2 : (List Bool)} {g11 : (Option Gr)} (I : Int → List (Int × Int) → Prop) (μ : Int → List (Int × Int) → Nat) (Q : X15 → Prop) (h : ∀ (i15 : Int) (r0 : List (Int × Int)), I i15 r0 → Led (fun (R : Type) (k : V15 → Option R) (kx : X15 → Option R) => R15 n0 turn2 g11 i15 r0 k kx) (fun v => ∃ (i15' : Int) (r0' : List (Int × Int)), v = ((n0, turn2, g11, i15', ()), (r0', ())) ∧ I i15' r0' ∧ μ i15' r0' < μ i15 r0) Q) : ∀ (i15 : Int) (r0 : List (Int × Int)), I i15 r0 → ∃ z, F15 n0 turn2 g11 i15 r0 = some z ∧ Q z := fun i15 r0 hi => by
  refine finOf_inv (V := V15) (X := X15) (rd := rd15) (fun v => ∃ (i15' : Int) (r0' : List (Int × Int)), v = ((n0, turn2, g11, i15', ()), (r0', ())) ∧ I i15' r0') (fun v => match v with
    | ((n0, turn2, g11, i15, _), (r0, _)) => μ i15 r0) Q (fun v hv => ?_) ((n0, turn2, g11, i15, ()), (r0, ())) ⟨i15, r0, rfl, hi⟩
  obtain ⟨i15, r0, rfl, hi⟩ := hv
  refine led_mono (h i15 r0 hi) ?_ (fun _ q => q)
  rintro v ⟨i15', r0', rfl, h1, h2⟩
  exact ⟨⟨i15', r0', rfl, h1⟩, h2⟩
noncomputable def L15 : Lp := ⟨15, ⟨[(0, none), (2, none), (11, none), (12, none), (15, none)]⟩, s15, x15, fun v => match v with
  | ((n0, turn2, g11, i15, _), (r0, _)) => F15 n0 turn2 g11 i15 r0⟩
theorem ends15 : Ends L15 rd15 := ends_fin (fun v => by
  obtain ⟨⟨n0, turn2, g11, i15, _⟩, ⟨r0, _⟩⟩ := v
  rfl)
abbrev s22 : Shape := ⟨[.v I64, .un, .un, .un, .un, .un, .un, .un, .un, .un, .un, .v (.obj 0), .v (.list (.pair I64 I64)), .un, .un, .un, .v .bool, .row 0, .v I64, .un, .un, .un, .un, .un, .un, .un, .un, .un, .un, .un, .un, .un, .un, .un, .un, .un, .un, .un, .un, .un, .un, .un, .un, .un, .un, .un, .un, .un, .un, .un, .un, .un, .un, .un, .un, .un, .un, .un, .un, .un, .un, .un, .un, .un, .un, .un, .un, .un, .un, .un, .un, .un, .un, .un, .un, .un, .un, .un, .un, .un, .un, .un, .un, .un, .un, .un, .un, .un, .un, .un, .un, .un, .un, .un, .un, .un, .un, .un, .un, .un, .un, .un, .un, .un, .un, .un, .un, .un, .un, .un, .un, .un, .un, .un, .un, .un, .un, .un, .un, .un, .un, .un, .un, .un, .un, .un, .un, .un, .un, .un, .un, .un, .un, .un, .un, .un, .un, .un, .un, .un, .un, .un, .un, .un, .un, .un, .un, .un, .un, .un, .un, .un, .un, .un, .un, .un, .un, .un, .un], [.row (32 : Go.TypeId) (.pair I64 I64)]⟩
abbrev x22 : List Way := [⟨(.ex 4), ⟨[(0, none), (11, none), (16, none), (17, none)]⟩, ⟨[.v I64, .un, .un, .un, .un, .un, .un, .un, .un, .un, .un, .v (.obj 0), .un, .un, .un, .un, .v .bool, .row 0, .un, .un, .un, .un, .un, .un, .un, .un, .un, .un, .un, .un, .un, .un, .un, .un, .un, .un, .un, .un, .un, .un, .un, .un, .un, .un, .un, .un, .un, .un, .un, .un, .un, .un, .un, .un, .un, .un, .un, .un, .un, .un, .un, .un, .un, .un, .un, .un, .un, .un, .un, .un, .un, .un, .un, .un, .un, .un, .un, .un, .un, .un, .un, .un, .un, .un, .un, .un, .un, .un, .un, .un, .un, .un, .un, .un, .un, .un, .un, .un, .un, .un, .un, .un, .un, .un, .un, .un, .un, .un, .un, .un, .un, .un, .un, .un, .un, .un, .un, .un, .un, .un, .un, .un, .un, .un, .un, .un, .un, .un, .un, .un, .un, .un, .un, .un, .un, .un, .un, .un, .un, .un, .un, .un, .un, .un, .un, .un, .un, .un, .un, .un, .un, .un, .un, .un, .un, .un, .un, .un, .un], [.row (32 : Go.TypeId) (.pair I64 I64)]⟩⟩]
abbrev V22 : Type := (Int × (Option Gr) × (List (Int × Int)) × Bool × Int × Unit) × ((List (Int × Int)) × Unit)
abbrev X22 : Type := (Int × (Option Gr) × Bool × Unit) × ((List (Int × Int)) × Unit)
noncomputable def R22 {R : Type} (n0 : Int) (g11 : (Option Gr)) (l12 : (List (Int × Int))) (one16 : Bool) (i18 : Int) (r0 : List (Int × Int)) (k : V22 → Option R) (kx : X22 → Option R) : Option R := (if Decidable.decide (i18 < (↑(List.length l12) : Int)) = Bool.true then (if Decidable.decide (i18 < (50 : Int)) = Bool.true then (if (0 : Int) ≤ i18 then (if i18 < (↑(List.length l12) : Int) then (if (0 : Int) ≤ i18 then (if i18 < (↑(List.length l12) : Int) then (if (0 : Int) ≤ i18 then (if i18 < (↑(List.length l12) : Int) then (if (0 : Int) ≤ i18 then (if i18 < (↑(List.length l12) : Int) then (if (List.length r0 + List.length [((List.getD l12 (Int.toNat i18) ((0 : Int), (0 : Int))).2, (List.getD l12 (Int.toNat i18) ((0 : Int), (0 : Int))).1), ((List.getD l12 (Int.toNat i18) ((0 : Int), (0 : Int))).1, (List.getD l12 (Int.toNat i18) ((0 : Int), (0 : Int))).1)]) * (16 : Nat) ≤ (140737488355328 : Nat) then k ((n0, g11, l12, one16, IntKind.wrap .i64 (i18 + (1 : Int)), ()), (r0 ++ [((List.getD l12 (Int.toNat i18) ((0 : Int), (0 : Int))).2, (List.getD l12 (Int.toNat i18) ((0 : Int), (0 : Int))).1), ((List.getD l12 (Int.toNat i18) ((0 : Int), (0 : Int))).1, (List.getD l12 (Int.toNat i18) ((0 : Int), (0 : Int))).1)], ()))
 else none)
 else none)
 else none)
 else none)
 else none)
 else none)
 else none)
 else none)
 else none)
 else kx (((n0, g11, one16, ()), (r0, ()))))
 else kx (((n0, g11, one16, ()), (r0, ()))))
noncomputable def rd22 : Rd (VO s22) (Xs x22) := fun v k kx => match v with
  | ((n0, g11, l12, one16, i18, _), (r0, _)) => R22 n0 g11 l12 one16 i18 r0 k kx
noncomputable def F22 (n0 : Int) (g11 : (Option Gr)) (l12 : (List (Int × Int))) (one16 : Bool) (i18 : Int) (r0 : List (Int × Int)) : Option X22 := finOf rd22 ((n0, g11, l12, one16, i18, ()), (r0, ()))
theorem F22_inv {n0 : Int} {g11 : (Option Gr)} {l12 : (List (Int × Int))} {one16 : Bool} (I : Int → List (Int × Int) → Prop) (μ : Int → List (Int × Int) → Nat) (Q : X22 → Prop) (h : ∀ (i18 : Int) (r0 : List (Int × Int)), I i18 r0 → Led (fun (R : Type) (k : V22 → Option R) (kx : X22 → Option R) => R22 n0 g11 l12 one16 i18 r0 k kx) (fun v => ∃ (i18' : Int) (r0' : List (Int × Int)), v = ((n0, g11, l12, one16, i18', ()), (r0', ())) ∧ I i18' r0' ∧ μ i18' r0' < μ i18 r0) Q) : ∀ (i18 : Int) (r0 : List (Int × Int)), I i18 r0 → ∃ z, F22 n0 g11 l12 one16 i18 r0 = some z ∧ Q z := fun i18 r0 hi => by
  refine finOf_inv (V := V22) (X := X22) (rd := rd22) (fun v => ∃ (i18' : Int) (r0' : List (Int × Int)), v = ((n0, g11, l12, one16, i18', ()), (r0', ())) ∧ I i18' r0') (fun v => match v with
    | ((n0, g11, l12, one16, i18, _), (r0, _)) => μ i18 r0) Q (fun v hv => ?_) ((n0, g11, l12, one16, i18, ()), (r0, ())) ⟨i18, r0, rfl, hi⟩
  obtain ⟨i18, r0, rfl, hi⟩ := hv
  refine led_mono (h i18 r0 hi) ?_ (fun _ q => q)
  rintro v ⟨i18', r0', rfl, h1, h2⟩
  exact ⟨⟨i18', r0', rfl, h1⟩, h2⟩
noncomputable def L22 : Lp := ⟨22, ⟨[(0, none), (11, none), (12, none), (16, none), (17, none), (18, none)]⟩, s22, x22, fun v => match v with
  | ((n0, g11, l12, one16, i18, _), (r0, _)) => F22 n0 g11 l12 one16 i18 r0⟩
theorem ends22 : Ends L22 rd22 := ends_fin (fun v => by
  obtain ⟨⟨n0, g11, l12, one16, i18, _⟩, ⟨r0, _⟩⟩ := v
  rfl)
noncomputable def env : Env := mkEnv tab [(31, first5.sig), (32, fine.sig), (33, graphOf.sig), (34, PairsO.sig), (35, Pairs.sig), (36, alike.sig)] 0 [(13, [0, 1, 2, 3, 4, 5, 6, 7, 8, 9, 10, 11, 12, 13, 14, 15]), (18, [0, 1, 2, 3, 4, 5, 6, 7, 8, 9, 10, 11, 12, 13, 14]), (24, [0, 1, 2, 3, 4, 5, 6, 7, 8, 9, 10, 11, 12, 13, 14, 15, 16, 17, 18, 19, 20, 21, 22, 23, 24, 25])] [L10, L15, L22]
theorem round10 : RoundIs env (sub [true, true, true, true, true, true, true, false, true, false, false] code) L10 rd10 := fun R v k kx => by kernel_rfl
theorem round15 : RoundIs env (sub [true, true, true, true, true, true, true, true, false, true, false, false] code) L15 rd15 := fun R v k kx => by kernel_rfl
theorem round22 : RoundIs env (sub [true, true, true, true, true, true, true, true, true, true, true, false, true, false, false] code) L22 rd22 := fun R v k kx => by kernel_rfl
abbrev D : Type := (Bool × Unit)
noncomputable def run' (n0 : Int) (pairs1 : (List (Int × Int))) (turn2 : (List Bool)) (order3 : (List Int)) : Option D := (if first5.pre = Bool.true then (if fine.pre n0 pairs1 = Bool.true then (if (!first5.fn.1) = Bool.false then (if (!(fine.fn n0 pairs1).1) = Bool.true then some (first5.fn.1, ())
 else (if graphOf.pre n0 pairs1 = Bool.true then (if Option.isNone (graphOf.fn n0 pairs1).1 = Bool.true then some (Bool.false, ())
 else (if Pairs.pre (graphOf.fn n0 pairs1).1 = Bool.true then (if PairsO.pre (Pairs.fn (graphOf.fn n0 pairs1).1).1 = Bool.true then (match F10 (n0) (turn2) (order3) ((graphOf.fn n0 pairs1).1) ((0 : Int)) ((PairsO.fn (Pairs.fn (graphOf.fn n0 pairs1).1).1).1) with
  | some (((n0_1, turn2_1, g11_1, _), (r0_1, _))) => (match F15 (n0_1) (turn2_1) (g11_1) ((0 : Int)) (r0_1) with
  | some (((n0_2, g11_2, _), (r0_2, _))) => (if graphOf.pre n0_2 r0_2 = Bool.true then (if alike.pre g11_2 (graphOf.fn n0_2 r0_2).1 = Bool.true then (if PairsO.pre r0_2 = Bool.true then (match F22 (n0_2) (g11_2) (r0_2) ((alike.fn g11_2 (graphOf.fn n0_2 r0_2).1).1) ((0 : Int)) ((PairsO.fn r0_2).1) with
  | some (((n0_3, g11_3, one16_3, _), (r0_3, _))) => (if graphOf.pre n0_3 r0_3 = Bool.true then (if alike.pre g11_3 (graphOf.fn n0_3 r0_3).1 = Bool.true then (if one16_3 = Bool.true then some ((alike.fn g11_3 (graphOf.fn n0_3 r0_3).1).1, ())
 else some (Bool.false, ()))
 else none)
 else none)
  | none => none)
 else none)
 else none)
 else none)
  | none => none)
  | none => none)
 else none)
 else none))
 else none))
 else some (first5.fn.1, ()))
 else none)
 else none)
noncomputable def run (d : Ds (List.map PM.ty ps)) : Option (Ds (muts ps ++ List.map PM.ty rs)) := match d with
  | (n0, pairs1, turn2, order3, _) => run' n0 pairs1 turn2 order3
theorem run_is : ∀ d, runF env 159 code [8] ps rs d = run d := fun d => by kernel_rfl
theorem loops : LoopsOk env code := loopsOk_of (l := [[true, true, true, true, true, true, true, false, true, false, false], [true, true, true, true, true, true, true, true, false, true, false, false], [true, true, true, true, true, true, true, true, true, true, true, false, true, false, false]]) (by kernel_rfl) (fun p hp => by
  simp only [List.mem_cons, List.not_mem_nil, or_false] at hp
  rcases hp with rfl | rfl | rfl
  · exact loopOk_lp (L := L10) (x := sub [true, true, true, true, true, true, true, false, true, false, false] code) (by kernel_rfl) (by simp [L10]) round10 ends10
  · exact loopOk_lp (L := L15) (x := sub [true, true, true, true, true, true, true, true, false, true, false, false] code) (by kernel_rfl) (by simp [L15]) round15 ends15
  · exact loopOk_lp (L := L22) (x := sub [true, true, true, true, true, true, true, true, true, true, true, false, true, false, false] code) (by kernel_rfl) (by simp [L22]) round22 ends22
  )
noncomputable def pre (n0 : Int) (pairs1 : (List (Int × Int))) (turn2 : (List Bool)) (order3 : (List Int)) : Bool := (run' n0 pairs1 turn2 order3).isSome
noncomputable def fn (n0 : Int) (pairs1 : (List (Int × Int))) (turn2 : (List Bool)) (order3 : (List Int)) : D := match run' n0 pairs1 turn2 order3 with
  | some x => x
  | none => default
noncomputable def sig : Sig := ⟨ps, rs, fun d => match d with
  | (n0, pairs1, turn2, order3, _) => pre n0 pairs1 turn2 order3, fun d => match d with
  | (n0, pairs1, turn2, order3, _) => fn n0 pairs1 turn2 order3⟩
theorem run_fn (n0 : Int) (pairs1 : (List (Int × Int))) (turn2 : (List Bool)) (order3 : (List Int)) (h : pre n0 pairs1 turn2 order3 = true) : run' n0 pairs1 turn2 order3 = some (fn n0 pairs1 turn2 order3) := by
  unfold pre at h
  unfold fn
  cases e : run' n0 pairs1 turn2 order3 with
  | some x => rfl
  | none => rw [e] at h; cases h
theorem is_fn (n0 : Int) (pairs1 : (List (Int × Int))) (turn2 : (List Bool)) (order3 : (List Int)) {x : D} (h : run' n0 pairs1 turn2 order3 = some x) : pre n0 pairs1 turn2 order3 = true ∧ fn n0 pairs1 turn2 order3 = x := by
  unfold pre fn
  rw [h]
  exact ⟨rfl, rfl⟩
theorem sound {ρ : Obs} (hE : EnvOk Go.Proofs.Try.prog ρ env) : Sound Go.Proofs.Try.prog ρ 4 sig := sound_of (fn := Go.Proofs.Try.f4) (c := code) (res := [8]) hE (by kernel_rfl) (by kernel_rfl) (by kernel_rfl) (by kernel_rfl) (by kernel_rfl) loops rfl (show 4 ≤ 159 by decide) (fun d hd => (run_is d).trans (by
  obtain ⟨n0, pairs1, turn2, order3, _⟩ := d
  exact run_fn n0 pairs1 turn2 order3 hd))
theorem enters : Enters Go.Proofs.Try.prog 4 := enters_of (fn := Go.Proofs.Try.f4) (by kernel_rfl) (by kernel_rfl) (by kernel_rfl)
theorem ok {ρ : Obs} (h : ∀ p ∈ ([(31, first5.sig), (32, fine.sig), (33, graphOf.sig), (34, PairsO.sig), (35, Pairs.sig), (36, alike.sig)] : List (FuncId × Sig)), Enters Go.Proofs.Try.prog p.1 ∧ Sound Go.Proofs.Try.prog ρ p.1 p.2) : Enters Go.Proofs.Try.prog 4 ∧ Sound Go.Proofs.Try.prog ρ 4 sig := ⟨enters, sound (envOk_of tabOk h)⟩
theorem okR : Enters Go.Proofs.Try.prog 4 ∧ Sound Go.Proofs.Try.prog rho 4 sig := ok (fun p hp => by
  simp only [List.mem_cons, List.not_mem_nil, or_false] at hp
  rcases hp with rfl | rfl | rfl | rfl | rfl | rfl
  · exact first5.okR
  · exact fine.okR
  · exact graphOf.okR
  · exact PairsO.okR
  · exact Pairs.okR
  · exact alike.okR)
end GraphEdges
end Go.Proofs.Ythbojpaghbbnnaa.Z
