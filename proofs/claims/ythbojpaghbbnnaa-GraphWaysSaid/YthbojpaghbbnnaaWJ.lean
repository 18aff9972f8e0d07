/- What functions compute from plain values: joined, GraphWays. Printed by a small program of ours (zgen, zg.py); no condition. -/
import Derived.Test.YthbojpaghbbnnaaZN
import Derived.Test.YthbojpaghbbnnaaZT
import Derived.Test.YthbojpaghbbnnaaZP
import Derived.Test.YthbojpaghbbnnaaZS
import Derived.Test.YthbojpaghbbnnaaWF
import Derived.KernelRfl
namespace Go.Proofs.Ythbojpaghbbnnaa.Z
open Go Go.RowKit
set_option linter.unusedVariables false
set_option linter.unusedSimpArgs false
/-! pith/pithlaw5.joined -/
namespace joined
abbrev ps : List PM := [.val (.obj 0), .val (.list I64)]
abbrev rs : List PM := [.val .bool]
noncomputable abbrev code : Code := (Go.Proofs.Try.f39.body.getD .skip)
abbrev s13 : Shape := ⟨[.v (.obj 0), .v (.list I64), .un, .un, .un, .row 0, .v I64, .row 1, .v I64, .v (.list I64), .v I64, .un, .un, .un, .un, .un, .un, .un, .un, .un, .un, .un, .un, .un, .un, .un, .un, .un, .un, .un, .un, .un, .un, .un, .un, .un, .un, .un, .un, .un, .un, .un, .un, .un, .un, .un, .un, .un, .un, .un, .un, .un, .un, .un, .un, .un, .un, .un, .un, .un, .un, .un, .un, .un, .un, .un, .un, .un, .un, .un, .un, .un, .un, .un, .un, .un, .un, .un, .un, .un, .un, .un, .un, .un, .un, .un, .un, .un, .un, .un, .un, .un, .un, .un, .un, .un, .un, .un, .un, .un, .un, .un, .un, .un, .un, .un, .un, .un, .un, .un, .un, .un, .un, .un, .un, .un], [.row (4 : Go.TypeId) .bool, .row (3 : Go.TypeId) I64]⟩
abbrev x13 : List Way := [⟨(.ex 4), ⟨[(0, none), (1, none), (5, none), (6, none), (7, none), (8, none)]⟩, ⟨[.v (.obj 0), .v (.list I64), .un, .un, .un, .row 0, .v I64, .row 1, .v I64, .un, .un, .un, .un, .un, .un, .un, .un, .un, .un, .un, .un, .un, .un, .un, .un, .un, .un, .un, .un, .un, .un, .un, .un, .un, .un, .un, .un, .un, .un, .un, .un, .un, .un, .un, .un, .un, .un, .un, .un, .un, .un, .un, .un, .un, .un, .un, .un, .un, .un, .un, .un, .un, .un, .un, .un, .un, .un, .un, .un, .un, .un, .un, .un, .un, .un, .un, .un, .un, .un, .un, .un, .un, .un, .un, .un, .un, .un, .un, .un, .un, .un, .un, .un, .un, .un, .un, .un, .un, .un, .un, .un, .un, .un, .un, .un, .un, .un, .un, .un, .un, .un, .un, .un, .un, .un, .un], [.row (4 : Go.TypeId) .bool, .row (3 : Go.TypeId) I64]⟩⟩]
abbrev V13 : Type := ((Option Gr) × (List Int) × Int × Int × (List Int) × Int × Unit) × ((List Bool) × (List Int) × Unit)
abbrev X13 : Type := ((Option Gr) × (List Int) × Int × Int × Unit) × ((List Bool) × (List Int) × Unit)
noncomputable def R13 {R : Type} (g0 : (Option Gr)) (p1 : (List Int)) (v6 : Int) (i8 : Int) (to9 : (List Int)) (k10 : Int) (r0 : List Bool) (r1 : List Int) (k : V13 → Option R) (kx : X13 → Option R) : Option R := (if Decidable.decide (k10 < (↑(List.length to9) : Int)) = Bool.true then (if (0 : Int) ≤ k10 then (if k10 < (↑(List.length to9) : Int) then (if Decidable.decide (List.getD to9 (Int.toNat k10) (0 : Int) ≥ (0 : Int)) = Bool.true then (if (0 : Int) ≤ k10 then (if k10 < (↑(List.length to9) : Int) then (if Decidable.decide (List.getD to9 (Int.toNat k10) (0 : Int) < (↑(List.length p1) : Int)) = Bool.true then (if (0 : Int) ≤ k10 then (if k10 < (↑(List.length to9) : Int) then (if (0 : Int) ≤ List.getD to9 (Int.toNat k10) (0 : Int) then (if List.getD to9 (Int.toNat k10) (0 : Int) < (↑(List.length p1) : Int) then (if (List.getD p1 (Int.toNat (List.getD to9 (Int.toNat k10) (0 : Int))) (0 : Int) == v6) = Bool.true then (if (0 : Int) ≤ k10 then (if k10 < (↑(List.length to9) : Int) then (if (0 : Int) ≤ List.getD to9 (Int.toNat k10) (0 : Int) then (if List.getD to9 (Int.toNat k10) (0 : Int) < (↑(List.length r0) : Int) then (if (!List.getD r0 (Int.toNat (List.getD to9 (Int.toNat k10) (0 : Int))) Bool.false) = Bool.true then (if (0 : Int) ≤ k10 then (if k10 < (↑(List.length to9) : Int) then (if (0 : Int) ≤ List.getD to9 (Int.toNat k10) (0 : Int) then (if List.getD to9 (Int.toNat k10) (0 : Int) < (↑(List.length r0) : Int) then (if Int.toNat (List.getD to9 (Int.toNat k10) (0 : Int)) < List.length r0 then (if (0 : Int) ≤ k10 then (if k10 < (↑(List.length to9) : Int) then (if (List.length r1 + List.length [List.getD to9 (Int.toNat k10) (0 : Int)]) * (8 : Nat) ≤ (140737488355328 : Nat) then k ((g0, p1, v6, i8, to9, IntKind.wrap .i64 (k10 + (1 : Int)), ()), (List.set r0 (Int.toNat (List.getD to9 (Int.toNat k10) (0 : Int))) Bool.true, r1 ++ [List.getD to9 (Int.toNat k10) (0 : Int)], ()))
 else none)
 else none)
 else none)
 else none)
 else none)
 else none)
 else none)
 else none)
 else k ((g0, p1, v6, i8, to9, IntKind.wrap .i64 (k10 + (1 : Int)), ()), (r0, r1, ())))
 else none)
 else none)
 else none)
 else none)
 else k ((g0, p1, v6, i8, to9, IntKind.wrap .i64 (k10 + (1 : Int)), ()), (r0, r1, ())))
 else none)
 else none)
 else none)
 else none)
 else k ((g0, p1, v6, i8, to9, IntKind.wrap .i64 (k10 + (1 : Int)), ()), (r0, r1, ())))
 else none)
 else none)
 else k ((g0, p1, v6, i8, to9, IntKind.wrap .i64 (k10 + (1 : Int)), ()), (r0, r1, ())))
 else none)
 else none)
 else kx (((g0, p1, v6, i8, ()), (r0, r1, ()))))
noncomputable def rd13 : Rd (VO s13) (Xs x13) := fun v k kx => match v with
  | ((g0, p1, v6, i8, to9, k10, _), (r0, r1, _)) => R13 g0 p1 v6 i8 to9 k10 r0 r1 k kx
noncomputable def F13 (g0 : (Option Gr)) (p1 : (List Int)) (v6 : Int) (i8 : Int) (to9 : (List Int)) (k10 : Int) (r0 : List Bool) (r1 : List Int) : Option X13 := finOf rd13 ((g0, p1, v6, i8, to9, k10, ()), (r0, r1, ()))
theorem F13_inv {g0 : (Option Gr)} {p1 : (List Int)} {v6 : Int} {i8 : Int} {to9 : (List Int)} (I : Int → List Bool → List Int → Prop) (μ : Int → List Bool → List Int → Nat) (Q : X13 → Prop) (h : ∀ (k10 : Int) (r0 : List Bool) (r1 : List Int), I k10 r0 r1 → Led (fun (R : Type) (k : V13 → Option R) (kx : X13 → Option R) => R13 g0 p1 v6 i8 to9 k10 r0 r1 k kx) (fun v => ∃ (k10' : Int) (r0' : List Bool) (r1' : List Int), v = ((g0, p1, v6, i8, to9, k10', ()), (r0', r1', ())) ∧ I k10' r0' r1' ∧ μ k10' r0' r1' < μ k10 r0 r1) Q) : ∀ (k10 : Int) (r0 : List Bool) (r1 : List Int), I k10 r0 r1 → ∃ z, F13 g0 p1 v6 i8 to9 k10 r0 r1 = some z ∧ Q z := fun k10 r0 r1 hi => by
  refine finOf_inv (V := V13) (X := X13) (rd := rd13) (fun v => ∃ (k10' : Int) (r0' : List Bool) (r1' : List Int), v = ((g0, p1, v6, i8, to9, k10', ()), (r0', r1', ())) ∧ I k10' r0' r1') (fun v => match v with
    | ((g0, p1, v6, i8, to9, k10, _), (r0, r1, _)) => μ k10 r0 r1) Q (fun v hv => ?_) ((g0, p1, v6, i8, to9, k10, ()), (r0, r1, ())) ⟨k10, r0, r1, rfl, hi⟩
  obtain ⟨k10, r0, r1, rfl, hi⟩ := hv
  refine led_mono (h k10 r0 r1 hi) ?_ (fun _ q => q)
  rintro v ⟨k10', r0', r1', rfl, h1, h2⟩
  exact ⟨⟨k10', r0', r1', rfl, h1⟩, h2⟩
noncomputable def L13 : Lp := ⟨13, ⟨[(0, none), (1, none), (5, none), (6, none), (7, none), (8, none), (9, none), (10, none)]⟩, s13, x13, fun v => match v with
  | ((g0, p1, v6, i8, to9, k10, _), (r0, r1, _)) => F13 g0 p1 v6 i8 to9 k10 r0 r1⟩
theorem ends13 : Ends L13 rd13 := ends_fin (fun v => by
  obtain ⟨⟨g0, p1, v6, i8, to9, k10, _⟩, ⟨r0, r1, _⟩⟩ := v
  rfl)
abbrev s9 : Shape := ⟨[.v (.obj 0), .v (.list I64), .un, .un, .un, .row 0, .v I64, .row 1, .v I64, .un, .un, .un, .un, .un, .un, .un, .un, .un, .un, .un, .un, .un, .un, .un, .un, .un, .un, .un, .un, .un, .un, .un, .un, .un, .un, .un, .un, .un, .un, .un, .un, .un, .un, .un, .un, .un, .un, .un, .un, .un, .un, .un, .un, .un, .un, .un, .un, .un, .un, .un, .un, .un, .un, .un, .un, .un, .un, .un, .un, .un, .un, .un, .un, .un, .un, .un, .un, .un, .un, .un, .un, .un, .un, .un, .un, .un, .un, .un, .un, .un, .un, .un, .un, .un, .un, .un, .un, .un, .un, .un, .un, .un, .un, .un, .un, .un, .un, .un, .un, .un, .un, .un, .un, .un, .un, .un], [.row (4 : Go.TypeId) .bool, .row (3 : Go.TypeId) I64]⟩
abbrev x9 : List Way := [⟨(.ex 2), ⟨[(0, none), (1, none), (5, none), (6, none)]⟩, ⟨[.v (.obj 0), .v (.list I64), .un, .un, .un, .row 0, .v I64, .un, .un, .un, .un, .un, .un, .un, .un, .un, .un, .un, .un, .un, .un, .un, .un, .un, .un, .un, .un, .un, .un, .un, .un, .un, .un, .un, .un, .un, .un, .un, .un, .un, .un, .un, .un, .un, .un, .un, .un, .un, .un, .un, .un, .un, .un, .un, .un, .un, .un, .un, .un, .un, .un, .un, .un, .un, .un, .un, .un, .un, .un, .un, .un, .un, .un, .un, .un, .un, .un, .un, .un, .un, .un, .un, .un, .un, .un, .un, .un, .un, .un, .un, .un, .un, .un, .un, .un, .un, .un, .un, .un, .un, .un, .un, .un, .un, .un, .un, .un, .un, .un, .un, .un, .un, .un, .un, .un, .un], [.row (4 : Go.TypeId) .bool]⟩⟩]
abbrev V9 : Type := ((Option Gr) × (List Int) × Int × Int × Unit) × ((List Bool) × (List Int) × Unit)
abbrev X9 : Type := ((Option Gr) × (List Int) × Int × Unit) × ((List Bool) × Unit)
noncomputable def R9 {R : Type} (g0 : (Option Gr)) (p1 : (List Int)) (v6 : Int) (i8 : Int) (r0 : List Bool) (r1 : List Int) (k : V9 → Option R) (kx : X9 → Option R) : Option R := (if Decidable.decide (i8 < (↑(List.length r1) : Int)) = Bool.true then (if (0 : Int) ≤ i8 then (if i8 < (↑(List.length r1) : Int) then (if Neighbours.pre g0 (List.getD r1 (Int.toNat i8) (0 : Int)) = Bool.true then (match F13 (g0) (p1) (v6) (i8) ((Neighbours.fn g0 (List.getD r1 (Int.toNat i8) (0 : Int))).1) ((0 : Int)) (r0) (r1) with
  | some (((g0_1, p1_1, v6_1, i8_1, _), (r0_1, r1_1, _))) => k ((g0_1, p1_1, v6_1, IntKind.wrap .i64 (i8_1 + (1 : Int)), ()), (r0_1, r1_1, ()))
  | none => none)
 else none)
 else none)
 else none)
 else kx (((g0, p1, v6, ()), (r0, ()))))
noncomputable def rd9 : Rd (VO s9) (Xs x9) := fun v k kx => match v with
  | ((g0, p1, v6, i8, _), (r0, r1, _)) => R9 g0 p1 v6 i8 r0 r1 k kx
noncomputable def F9 (g0 : (Option Gr)) (p1 : (List Int)) (v6 : Int) (i8 : Int) (r0 : List Bool) (r1 : List Int) : Option X9 := finOf rd9 ((g0, p1, v6, i8, ()), (r0, r1, ()))
theorem F9_inv {g0 : (Option Gr)} {p1 : (List Int)} {v6 : Int} (I : Int → List Bool → List Int → Prop) (μ : Int → List Bool → List Int → Nat) (Q : X9 → Prop) (h : ∀ (i8 : Int) (r0 : List Bool) (r1 : List Int), I i8 r0 r1 → Led (fun (R : Type) (k : V9 → Option R) (kx : X9 → Option R) => R9 g0 p1 v6 i8 r0 r1 k kx) (fun v => ∃ (i8' : Int) (r0' : List Bool) (r1' : List Int), v = ((g0, p1, v6, i8', ()), (r0', r1', ())) ∧ I i8' r0' r1' ∧ μ i8' r0' r1' < μ i8 r0 r1) Q) : ∀ (i8 : Int) (r0 : List Bool) (r1 : List Int), I i8 r0 r1 → ∃ z, F9 g0 p1 v6 i8 r0 r1 = some z ∧ Q z := fun i8 r0 r1 hi => by
  refine finOf_inv (V := V9) (X := X9) (rd := rd9) (fun v => ∃ (i8' : Int) (r0' : List Bool) (r1' : List Int), v = ((g0, p1, v6, i8', ()), (r0', r1', ())) ∧ I i8' r0' r1') (fun v => match v with
    | ((g0, p1, v6, i8, _), (r0, r1, _)) => μ i8 r0 r1) Q (fun v hv => ?_) ((g0, p1, v6, i8, ()), (r0, r1, ())) ⟨i8, r0, r1, rfl, hi⟩
  obtain ⟨i8, r0, r1, rfl, hi⟩ := hv
  refine led_mono (h i8 r0 r1 hi) ?_ (fun _ q => q)
  rintro v ⟨i8', r0', r1', rfl, h1, h2⟩
  exact ⟨⟨i8', r0', r1', rfl, h1⟩, h2⟩
noncomputable def L9 : Lp := ⟨9, ⟨[(0, none), (1, none), (5, none), (6, none), (7, none), (8, none)]⟩, s9, x9, fun v => match v with
  | ((g0, p1, v6, i8, _), (r0, r1, _)) => F9 g0 p1 v6 i8 r0 r1⟩
theorem ends9 : Ends L9 rd9 := ends_fin (fun v => by
  obtain ⟨⟨g0, p1, v6, i8, _⟩, ⟨r0, r1, _⟩⟩ := v
  rfl)
abbrev s3 : Shape := ⟨[.v (.obj 0), .v (.list I64), .un, .un, .un, .row 0, .v I64, .un, .un, .un, .un, .un, .un, .un, .un, .un, .un, .un, .un, .un, .un, .un, .un, .un, .un, .un, .un, .un, .un, .un, .un, .un, .un, .un, .un, .un, .un, .un, .un, .un, .un, .un, .un, .un, .un, .un, .un, .un, .un, .un, .un, .un, .un, .un, .un, .un, .un, .un, .un, .un, .un, .un, .un, .un, .un, .un, .un, .un, .un, .un, .un, .un, .un, .un, .un, .un, .un, .un, .un, .un, .un, .un, .un, .un, .un, .un, .un, .un, .un, .un, .un, .un, .un, .un, .un, .un, .un, .un, .un, .un, .un, .un, .un, .un, .un, .un, .un, .un, .un, .un, .un, .un, .un, .un, .un, .un], [.row (4 : Go.TypeId) .bool]⟩
abbrev x3 : List Way := [⟨(.ex 0), ⟨[(1, none), (5, none)]⟩, ⟨[.un, .v (.list I64), .un, .un, .un, .row 0, .un, .un, .un, .un, .un, .un, .un, .un, .un, .un, .un, .un, .un, .un, .un, .un, .un, .un, .un, .un, .un, .un, .un, .un, .un, .un, .un, .un, .un, .un, .un, .un, .un, .un, .un, .un, .un, .un, .un, .un, .un, .un, .un, .un, .un, .un, .un, .un, .un, .un, .un, .un, .un, .un, .un, .un, .un, .un, .un, .un, .un, .un, .un, .un, .un, .un, .un, .un, .un, .un, .un, .un, .un, .un, .un, .un, .un, .un, .un, .un, .un, .un, .un, .un, .un, .un, .un, .un, .un, .un, .un, .un, .un, .un, .un, .un, .un, .un, .un, .un, .un, .un, .un, .un, .un, .un, .un, .un, .un, .un], [.row (4 : Go.TypeId) .bool]⟩⟩]
abbrev V3 : Type := ((Option Gr) × (List Int) × Int × Unit) × ((List Bool) × Unit)
abbrev X3 : Type := ((List Int) × Unit) × ((List Bool) × Unit)
noncomputable def R3 {R : Type} (g0 : (Option Gr)) (p1 : (List Int)) (v6 : Int) (r0 : List Bool) (k : V3 → Option R) (kx : X3 → Option R) : Option R := (if Decidable.decide (v6 < (↑(List.length p1) : Int)) = Bool.true then (if (0 : Int) ≤ v6 then (if v6 < (↑(List.length p1) : Int) then (if (List.getD p1 (Int.toNat v6) (0 : Int) != v6) = Bool.true then k ((g0, p1, IntKind.wrap .i64 (v6 + (1 : Int)), ()), (r0, ()))
 else (if (0 : Int) ≤ v6 then (if v6 < (↑(List.length r0) : Int) then (if Int.toNat v6 < List.length r0 then (match F9 (g0) (p1) (v6) ((0 : Int)) (List.set r0 (Int.toNat v6) Bool.true) ([v6]) with
  | some (((g0_2, p1_2, v6_2, _), (r0_2, _))) => k ((g0_2, p1_2, IntKind.wrap .i64 (v6_2 + (1 : Int)), ()), (r0_2, ()))
  | none => none)
 else none)
 else none)
 else none))
 else none)
 else none)
 else kx (((p1, ()), (r0, ()))))
noncomputable def rd3 : Rd (VO s3) (Xs x3) := fun v k kx => match v with
  | ((g0, p1, v6, _), (r0, _)) => R3 g0 p1 v6 r0 k kx
noncomputable def F3 (g0 : (Option Gr)) (p1 : (List Int)) (v6 : Int) (r0 : List Bool) : Option X3 := finOf rd3 ((g0, p1, v6, ()), (r0, ()))
theorem F3_inv {g0 : (Option Gr)} {p1 : (List Int)} (I : Int → List Bool → Prop) (μ : Int → List Bool → Nat) (Q : X3 → Prop) (h : ∀ (v6 : Int) (r0 : List Bool), I v6 r0 → Led (fun (R : Type) (k : V3 → Option R) (kx : X3 → Option R) => R3 g0 p1 v6 r0 k kx) (fun v => ∃ (v6' : Int) (r0' : List Bool), v = ((g0, p1, v6', ()), (r0', ())) ∧ I v6' r0' ∧ μ v6' r0' < μ v6 r0) Q) : ∀ (v6 : Int) (r0 : List Bool), I v6 r0 → ∃ z, F3 g0 p1 v6 r0 = some z ∧ Q z := fun v6 r0 hi => by
  refine finOf_inv (V := V3) (X := X3) (rd := rd3) (fun v => ∃ (v6' : Int) (r0' : List Bool), v = ((g0, p1, v6', ()), (r0', ())) ∧ I v6' r0') (fun v => match v with
    | ((g0, p1, v6, _), (r0, _)) => μ v6 r0) Q (fun v hv => ?_) ((g0, p1, v6, ()), (r0, ())) ⟨v6, r0, rfl, hi⟩
  obtain ⟨v6, r0, rfl, hi⟩ := hv
  refine led_mono (h v6 r0 hi) ?_ (fun _ q => q)
  rintro v ⟨v6', r0', rfl, h1, h2⟩
  exact ⟨⟨v6', r0', rfl, h1⟩, h2⟩
noncomputable def L3 : Lp := ⟨3, ⟨[(0, none), (1, none), (5, none), (6, none)]⟩, s3, x3, fun v => match v with
  | ((g0, p1, v6, _), (r0, _)) => F3 g0 p1 v6 r0⟩
theorem ends3 : Ends L3 rd3 := ends_fin (fun v => by
  obtain ⟨⟨g0, p1, v6, _⟩, ⟨r0, _⟩⟩ := v
  rfl)
abbrev s19 : Shape := ⟨[.un, .v (.list I64), .un, .un, .un, .row 0, .un, .un, .un, .un, .un, .v I64, .un, .un, .un, .un, .un, .un, .un, .un, .un, .un, .un, .un, .un, .un, .un, .un, .un, .un, .un, .un, .un, .un, .un, .un, .un, .un, .un, .un, .un, .un, .un, .un, .un, .un, .un, .un, .un, .un, .un, .un, .un, .un, .un, .un, .un, .un, .un, .un, .un, .un, .un, .un, .un, .un, .un, .un, .un, .un, .un, .un, .un, .un, .un, .un, .un, .un, .un, .un, .un, .un, .un, .un, .un, .un, .un, .un, .un, .un, .un, .un, .un, .un, .un, .un, .un, .un, .un, .un, .un, .un, .un, .un, .un, .un, .un, .un, .un, .un, .un, .un, .un, .un, .un, .un], [.row (4 : Go.TypeId) .bool]⟩
abbrev x19 : List Way := [⟨.rt, ⟨[(4, none)]⟩, ⟨[.un, .un, .un, .un, .v .bool, .un, .un, .un, .un, .un, .un, .un, .un, .un, .un, .un, .un, .un, .un, .un, .un, .un, .un, .un, .un, .un, .un, .un, .un, .un, .un, .un, .un, .un, .un, .un, .un, .un, .un, .un, .un, .un, .un, .un, .un, .un, .un, .un, .un, .un, .un, .un, .un, .un, .un, .un, .un, .un, .un, .un, .un, .un, .un, .un, .un, .un, .un, .un, .un, .un, .un, .un, .un, .un, .un, .un, .un, .un, .un, .un, .un, .un, .un, .un, .un, .un, .un, .un, .un, .un, .un, .un, .un, .un, .un, .un, .un, .un, .un, .un, .un, .un, .un, .un, .un, .un, .un, .un, .un, .un, .un, .un, .un, .un, .un, .un], []⟩⟩, ⟨(.ex 6), ⟨[]⟩, ⟨[.un, .un, .un, .un, .un, .un, .un, .un, .un, .un, .un, .un, .un, .un, .un, .un, .un, .un, .un, .un, .un, .un, .un, .un, .un, .un, .un, .un, .un, .un, .un, .un, .un, .un, .un, .un, .un, .un, .un, .un, .un, .un, .un, .un, .un, .un, .un, .un, .un, .un, .un, .un, .un, .un, .un, .un, .un, .un, .un, .un, .un, .un, .un, .un, .un, .un, .un, .un, .un, .un, .un, .un, .un, .un, .un, .un, .un, .un, .un, .un, .un, .un, .un, .un, .un, .un, .un, .un, .un, .un, .un, .un, .un, .un, .un, .un, .un, .un, .un, .un, .un, .un, .un, .un, .un, .un, .un, .un, .un, .un, .un, .un, .un, .un, .un, .un], []⟩⟩]
abbrev V19 : Type := ((List Int) × Int × Unit) × ((List Bool) × Unit)
abbrev X19 : Type := ((Bool × Unit) × (Unit)) ⊕ ((Unit) × (Unit))
noncomputable def R19 {R : Type} (p1 : (List Int)) (v11 : Int) (r0 : List Bool) (k : V19 → Option R) (kx : X19 → Option R) : Option R := (if Decidable.decide (v11 < (↑(List.length p1) : Int)) = Bool.true then (if (0 : Int) ≤ v11 then (if v11 < (↑(List.length p1) : Int) then (if Decidable.decide (List.getD p1 (Int.toNat v11) (0 : Int) ≥ (0 : Int)) = Bool.true then (if (0 : Int) ≤ v11 then (if v11 < (↑(List.length r0) : Int) then (if (!List.getD r0 (Int.toNat v11) Bool.false) = Bool.true then kx (Sum.inl <| ((Bool.false, ()), (())))
 else k ((p1, IntKind.wrap .i64 (v11 + (1 : Int)), ()), (r0, ())))
 else none)
 else none)
 else k ((p1, IntKind.wrap .i64 (v11 + (1 : Int)), ()), (r0, ())))
 else none)
 else none)
 else kx (Sum.inr <| ((()), (()))))
noncomputable def rd19 : Rd (VO s19) (Xs x19) := fun v k kx => match v with
  | ((p1, v11, _), (r0, _)) => R19 p1 v11 r0 k kx
noncomputable def F19 (p1 : (List Int)) (v11 : Int) (r0 : List Bool) : Option X19 := finOf rd19 ((p1, v11, ()), (r0, ()))
theorem F19_inv {p1 : (List Int)} {r0 : List Bool} (I : Int → Prop) (μ : Int → Nat) (Q : X19 → Prop) (h : ∀ (v11 : Int), I v11 → Led (fun (R : Type) (k : V19 → Option R) (kx : X19 → Option R) => R19 p1 v11 r0 k kx) (fun v => ∃ (v11' : Int), v = ((p1, v11', ()), (r0, ())) ∧ I v11' ∧ μ v11' < μ v11) Q) : ∀ (v11 : Int), I v11 → ∃ z, F19 p1 v11 r0 = some z ∧ Q z := fun v11 hi => by
  refine finOf_inv (V := V19) (X := X19) (rd := rd19) (fun v => ∃ (v11' : Int), v = ((p1, v11', ()), (r0, ())) ∧ I v11') (fun v => match v with
    | ((p1, v11, _), (r0, _)) => μ v11) Q (fun v hv => ?_) ((p1, v11, ()), (r0, ())) ⟨v11, rfl, hi⟩
  obtain ⟨v11, rfl, hi⟩ := hv
  refine led_mono (h v11 hi) ?_ (fun _ q => q)
  rintro v ⟨v11', rfl, h1, h2⟩
  exact ⟨⟨v11', rfl, h1⟩, h2⟩
noncomputable def L19 : Lp := ⟨19, ⟨[(1, none), (5, none), (11, none)]⟩, s19, x19, fun v => match v with
  | ((p1, v11, _), (r0, _)) => F19 p1 v11 r0⟩
theorem ends19 : Ends L19 rd19 := ends_fin (fun v => by
  obtain ⟨⟨p1, v11, _⟩, ⟨r0, _⟩⟩ := v
  rfl)
noncomputable def env : Env := mkEnv tab [(38, Neighbours.sig)] 0 [] [L13, L9, L3, L19]
theorem round13 : RoundIs env (sub [true, true, false, true, false, false, true, false, false, true, true, true, true, false, false, true, false, false, true, true, false, false] code) L13 rd13 := fun R v k kx => by kernel_rfl
theorem round9 : RoundIs env (sub [true, true, false, true, false, false, true, false, false, true, true, true, true, false, false] code) L9 rd9 := fun R v k kx => by kernel_rfl
theorem round3 : RoundIs env (sub [true, true, false, true, false, false] code) L3 rd3 := fun R v k kx => by kernel_rfl
theorem round19 : RoundIs env (sub [true, true, true, false, true, false, false] code) L19 rd19 := fun R v k kx => by kernel_rfl
abbrev D : Type := (Bool × Unit)
noncomputable def run' (g0 : (Option Gr)) (p1 : (List Int)) : Option D := (if (↑(List.length p1) : Int) = (↑(List.length p1) : Int) then (if Int.toNat (↑(List.length p1) : Int) * (1 : Nat) ≤ (140737488355328 : Nat) then (match F3 (g0) (p1) ((0 : Int)) (List.replicate (Int.toNat (↑(List.length p1) : Int)) Bool.false) with
  | some (((p1_3, _), (r0_3, _))) => (match F19 (p1_3) ((0 : Int)) (r0_3) with
  | some (Sum.inl <| ((t4_4, _), _)) => some (t4_4, ())
  | some (Sum.inr <| (_, _)) => some (Bool.true, ())
  | none => none)
  | none => none)
 else none)
 else none)
noncomputable def run (d : Ds (List.map PM.ty ps)) : Option (Ds (muts ps ++ List.map PM.ty rs)) := match d with
  | (g0, p1, _) => run' g0 p1
theorem run_is : ∀ d, runF env 116 code [4] ps rs d = run d := fun d => by kernel_rfl
theorem loops : LoopsOk env code := loopsOk_of (l := [[true, true, false, true, false, false], [true, true, false, true, false, false, true, false, false, true, true, true, true, false, false], [true, true, false, true, false, false, true, false, false, true, true, true, true, false, false, true, false, false, true, true, false, false], [true, true, true, false, true, false, false]]) (by kernel_rfl) (fun p hp => by
  simp only [List.mem_cons, List.not_mem_nil, or_false] at hp
  rcases hp with rfl | rfl | rfl | rfl
  · exact loopOk_lp (L := L3) (x := sub [true, true, false, true, false, false] code) (by kernel_rfl) (by simp [L3]) round3 ends3
  · exact loopOk_lp (L := L9) (x := sub [true, true, false, true, false, false, true, false, false, true, true, true, true, false, false] code) (by kernel_rfl) (by simp [L9]) round9 ends9
  · exact loopOk_lp (L := L13) (x := sub [true, true, false, true, false, false, true, false, false, true, true, true, true, false, false, true, false, false, true, true, false, false] code) (by kernel_rfl) (by simp [L13]) round13 ends13
  · exact loopOk_lp (L := L19) (x := sub [true, true, true, false, true, false, false] code) (by kernel_rfl) (by simp [L19]) round19 ends19
  )
noncomputable def pre (g0 : (Option Gr)) (p1 : (List Int)) : Bool := (run' g0 p1).isSome
noncomputable def fn (g0 : (Option Gr)) (p1 : (List Int)) : D := match run' g0 p1 with
  | some x => x
  | none => default
noncomputable def sig : Sig := ⟨ps, rs, fun d => match d with
  | (g0, p1, _) => pre g0 p1, fun d => match d with
  | (g0, p1, _) => fn g0 p1⟩
theorem run_fn (g0 : (Option Gr)) (p1 : (List Int)) (h : pre g0 p1 = true) : run' g0 p1 = some (fn g0 p1) := by
  unfold pre at h
  unfold fn
  cases e : run' g0 p1 with
  | some x => rfl
  | none => rw [e] at h; cases h
theorem is_fn (g0 : (Option Gr)) (p1 : (List Int)) {x : D} (h : run' g0 p1 = some x) : pre g0 p1 = true ∧ fn g0 p1 = x := by
  unfold pre fn
  rw [h]
  exact ⟨rfl, rfl⟩
theorem sound {ρ : Obs} (hE : EnvOk Go.Proofs.Try.prog ρ env) : Sound Go.Proofs.Try.prog ρ 39 sig := sound_of (fn := Go.Proofs.Try.f39) (c := code) (res := [4]) hE (by kernel_rfl) (by kernel_rfl) (by kernel_rfl) (by kernel_rfl) (by kernel_rfl) loops rfl (show 2 ≤ 116 by decide) (fun d hd => (run_is d).trans (by
  obtain ⟨g0, p1, _⟩ := d
  exact run_fn g0 p1 hd))
theorem enters : Enters Go.Proofs.Try.prog 39 := enters_of (fn := Go.Proofs.Try.f39) (by kernel_rfl) (by kernel_rfl) (by kernel_rfl)
theorem ok {ρ : Obs} (h : ∀ p ∈ ([(38, Neighbours.sig)] : List (FuncId × Sig)), Enters Go.Proofs.Try.prog p.1 ∧ Sound Go.Proofs.Try.prog ρ p.1 p.2) : Enters Go.Proofs.Try.prog 39 ∧ Sound Go.Proofs.Try.prog ρ 39 sig := ⟨enters, sound (envOk_of tabOk h)⟩
theorem okR : Enters Go.Proofs.Try.prog 39 ∧ Sound Go.Proofs.Try.prog rho 39 sig := ok (fun p hp => by
  simp only [List.mem_cons, List.not_mem_nil, or_false] at hp
  rcases hp with rfl
  · exact Neighbours.okR)
end joined
/-! pith/pithlaw5.GraphWays -/
namespace GraphWays
abbrev ps : List PM := [.val I64, .val (.list Pr), .val (.list .bool)]
abbrev rs : List PM := [.val .bool]
noncomputable abbrev code : Code := (Go.Proofs.Try.f5.body.getD .skip)
abbrev s19 : Shape := ⟨[.v I64, .un, .v (.list .bool), .un, .un, .un, .un, .un, .un, .v (.obj 0), .v (.list I64), .v I64, .v .bool, .v (.list I64), .v I64, .un, .un, .un, .un, .un, .un, .un, .un, .un, .un, .un, .un, .un, .un, .un, .un, .un, .un, .un, .un, .un, .un, .un, .un, .un, .un, .un, .un, .un, .un, .un, .un, .un, .un, .un, .un, .un, .un, .un, .un, .un, .un, .un, .un, .un, .un, .un, .un, .un, .un, .un, .un, .un, .un, .un, .un, .un, .un, .un, .un, .un, .un, .un, .un, .un, .un, .un, .un, .un, .un, .un, .un, .un, .un, .un, .un, .un, .un, .un, .un, .un, .un, .un, .un, .un, .un, .un, .un, .un, .un, .un, .un, .un, .un, .un, .un, .un, .un, .un, .un, .un, .un, .un, .un, .un, .un, .un, .un, .un, .un, .un, .un, .un, .un, .un, .un, .un, .un, .un, .un, .un, .un, .un, .un, .un, .un, .un, .un, .un, .un, .un], []⟩
abbrev x19 : List Way := [⟨.rt, ⟨[(6, none)]⟩, ⟨[.un, .un, .un, .un, .un, .un, .v .bool, .un, .un, .un, .un, .un, .un, .un, .un, .un, .un, .un, .un, .un, .un, .un, .un, .un, .un, .un, .un, .un, .un, .un, .un, .un, .un, .un, .un, .un, .un, .un, .un, .un, .un, .un, .un, .un, .un, .un, .un, .un, .un, .un, .un, .un, .un, .un, .un, .un, .un, .un, .un, .un, .un, .un, .un, .un, .un, .un, .un, .un, .un, .un, .un, .un, .un, .un, .un, .un, .un, .un, .un, .un, .un, .un, .un, .un, .un, .un, .un, .un, .un, .un, .un, .un, .un, .un, .un, .un, .un, .un, .un, .un, .un, .un, .un, .un, .un, .un, .un, .un, .un, .un, .un, .un, .un, .un, .un, .un, .un, .un, .un, .un, .un, .un, .un, .un, .un, .un, .un, .un, .un, .un, .un, .un, .un, .un, .un, .un, .un, .un, .un, .un, .un, .un, .un, .un, .un, .un], []⟩⟩, ⟨(.ex 2), ⟨[(0, none), (2, none), (9, none), (10, none), (11, none)]⟩, ⟨[.v I64, .un, .v (.list .bool), .un, .un, .un, .un, .un, .un, .v (.obj 0), .v (.list I64), .v I64, .un, .un, .un, .un, .un, .un, .un, .un, .un, .un, .un, .un, .un, .un, .un, .un, .un, .un, .un, .un, .un, .un, .un, .un, .un, .un, .un, .un, .un, .un, .un, .un, .un, .un, .un, .un, .un, .un, .un, .un, .un, .un, .un, .un, .un, .un, .un, .un, .un, .un, .un, .un, .un, .un, .un, .un, .un, .un, .un, .un, .un, .un, .un, .un, .un, .un, .un, .un, .un, .un, .un, .un, .un, .un, .un, .un, .un, .un, .un, .un, .un, .un, .un, .un, .un, .un, .un, .un, .un, .un, .un, .un, .un, .un, .un, .un, .un, .un, .un, .un, .un, .un, .un, .un, .un, .un, .un, .un, .un, .un, .un, .un, .un, .un, .un, .un, .un, .un, .un, .un, .un, .un, .un, .un, .un, .un, .un, .un, .un, .un, .un, .un, .un, .un], []⟩⟩]
abbrev V19 : Type := (Int × (List Bool) × (Option Gr) × (List Int) × Int × Bool × (List Int) × Int × Unit) × (Unit)
abbrev X19 : Type := ((Bool × Unit) × (Unit)) ⊕ ((Int × (List Bool) × (Option Gr) × (List Int) × Int × Unit) × (Unit))
noncomputable def R19 {R : Type} (n0 : Int) (keep2 : (List Bool)) (g9 : (Option Gr)) (p10 : (List Int)) (v11 : Int) (is12 : Bool) (to13 : (List Int)) (i14 : Int) (k : V19 → Option R) (kx : X19 → Option R) : Option R := (if Decidable.decide (i14 < (↑(List.length to13) : Int)) = Bool.true then (if is12 = Bool.true then (if (0 : Int) ≤ i14 then (if i14 < (↑(List.length to13) : Int) then (if Decidable.decide (List.getD to13 (Int.toNat i14) (0 : Int) < (↑(List.length keep2) : Int)) = Bool.true then (if (0 : Int) ≤ i14 then (if i14 < (↑(List.length to13) : Int) then (if (0 : Int) ≤ List.getD to13 (Int.toNat i14) (0 : Int) then (if List.getD to13 (Int.toNat i14) (0 : Int) < (↑(List.length keep2) : Int) then (if List.getD keep2 (Int.toNat (List.getD to13 (Int.toNat i14) (0 : Int))) Bool.false = Bool.true then (if (0 : Int) ≤ i14 then (if i14 < (↑(List.length to13) : Int) then (if (0 : Int) ≤ List.getD to13 (Int.toNat i14) (0 : Int) then (if List.getD to13 (Int.toNat i14) (0 : Int) < (↑(List.length p10) : Int) then (if (0 : Int) ≤ v11 then (if v11 < (↑(List.length p10) : Int) then (if (List.getD p10 (Int.toNat (List.getD to13 (Int.toNat i14) (0 : Int))) (0 : Int) != List.getD p10 (Int.toNat v11) (0 : Int)) = Bool.true then kx (Sum.inl <| ((Bool.false, ()), (())))
 else k ((n0, keep2, g9, p10, v11, is12, to13, IntKind.wrap .i64 (i14 + (1 : Int)), ()), (())))
 else none)
 else none)
 else none)
 else none)
 else none)
 else none)
 else k ((n0, keep2, g9, p10, v11, is12, to13, IntKind.wrap .i64 (i14 + (1 : Int)), ()), (())))
 else none)
 else none)
 else none)
 else none)
 else k ((n0, keep2, g9, p10, v11, is12, to13, IntKind.wrap .i64 (i14 + (1 : Int)), ()), (())))
 else none)
 else none)
 else kx (Sum.inr <| ((n0, keep2, g9, p10, v11, ()), (()))))
 else kx (Sum.inr <| ((n0, keep2, g9, p10, v11, ()), (()))))
noncomputable def rd19 : Rd (VO s19) (Xs x19) := fun v k kx => match v with
  | ((n0, keep2, g9, p10, v11, is12, to13, i14, _), _) => R19 n0 keep2 g9 p10 v11 is12 to13 i14 k kx
noncomputable def F19 (n0 : Int) (keep2 : (List Bool)) (g9 : (Option Gr)) (p10 : (List Int)) (v11 : Int) (is12 : Bool) (to13 : (List Int)) (i14 : Int) : Option X19 := finOf rd19 ((n0, keep2, g9, p10, v11, is12, to13, i14, ()), (()))
theorem F19_inv {n0 : Int} {keep2 : (List Bool)} {g9 : (Option Gr)} {p10 : (List Int)} {v11 : Int} {is12 : Bool} {to13 : (List Int)} (I : Int → Prop) (μ : Int → Nat) (Q : X19 → Prop) (h : ∀ (i14 : Int), I i14 → Led (fun (R : Type) (k : V19 → Option R) (kx : X19 → Option R) => R19 n0 keep2 g9 p10 v11 is12 to13 i14 k kx) (fun v => ∃ (i14' : Int), v = ((n0, keep2, g9, p10, v11, is12, to13, i14', ()), ()) ∧ I i14' ∧ μ i14' < μ i14) Q) : ∀ (i14 : Int), I i14 → ∃ z, F19 n0 keep2 g9 p10 v11 is12 to13 i14 = some z ∧ Q z := fun i14 hi => by
  refine finOf_inv (V := V19) (X := X19) (rd := rd19) (fun v => ∃ (i14' : Int), v = ((n0, keep2, g9, p10, v11, is12, to13, i14', ()), ()) ∧ I i14') (fun v => match v with
    | ((n0, keep2, g9, p10, v11, is12, to13, i14, _), _) => μ i14) Q (fun v hv => ?_) ((n0, keep2, g9, p10, v11, is12, to13, i14, ()), ()) ⟨i14, rfl, hi⟩
  obtain ⟨i14, rfl, hi⟩ := hv
  refine led_mono (h i14 hi) ?_ (fun _ q => q)
  rintro v ⟨i14', rfl, h1, h2⟩
  exact ⟨⟨i14', rfl, h1⟩, h2⟩
noncomputable def L19 : Lp := ⟨19, ⟨[(0, none), (2, none), (9, none), (10, none), (11, none), (12, none), (13, none), (14, none)]⟩, s19, x19, fun v => match v with
  | ((n0, keep2, g9, p10, v11, is12, to13, i14, _), _) => F19 n0 keep2 g9 p10 v11 is12 to13 i14⟩
theorem ends19 : Ends L19 rd19 := ends_fin (fun v => by
  obtain ⟨⟨n0, keep2, g9, p10, v11, is12, to13, i14, _⟩, ⟨_⟩⟩ := v
  rfl)
abbrev s12 : Shape := ⟨[.v I64, .un, .v (.list .bool), .un, .un, .un, .un, .un, .un, .v (.obj 0), .v (.list I64), .v I64, .un, .un, .un, .un, .un, .un, .un, .un, .un, .un, .un, .un, .un, .un, .un, .un, .un, .un, .un, .un, .un, .un, .un, .un, .un, .un, .un, .un, .un, .un, .un, .un, .un, .un, .un, .un, .un, .un, .un, .un, .un, .un, .un, .un, .un, .un, .un, .un, .un, .un, .un, .un, .un, .un, .un, .un, .un, .un, .un, .un, .un, .un, .un, .un, .un, .un, .un, .un, .un, .un, .un, .un, .un, .un, .un, .un, .un, .un, .un, .un, .un, .un, .un, .un, .un, .un, .un, .un, .un, .un, .un, .un, .un, .un, .un, .un, .un, .un, .un, .un, .un, .un, .un, .un, .un, .un, .un, .un, .un, .un, .un, .un, .un, .un, .un, .un, .un, .un, .un, .un, .un, .un, .un, .un, .un, .un, .un, .un, .un, .un, .un, .un, .un, .un], []⟩
abbrev x12 : List Way := [⟨.rt, ⟨[(6, none)]⟩, ⟨[.un, .un, .un, .un, .un, .un, .v .bool, .un, .un, .un, .un, .un, .un, .un, .un, .un, .un, .un, .un, .un, .un, .un, .un, .un, .un, .un, .un, .un, .un, .un, .un, .un, .un, .un, .un, .un, .un, .un, .un, .un, .un, .un, .un, .un, .un, .un, .un, .un, .un, .un, .un, .un, .un, .un, .un, .un, .un, .un, .un, .un, .un, .un, .un, .un, .un, .un, .un, .un, .un, .un, .un, .un, .un, .un, .un, .un, .un, .un, .un, .un, .un, .un, .un, .un, .un, .un, .un, .un, .un, .un, .un, .un, .un, .un, .un, .un, .un, .un, .un, .un, .un, .un, .un, .un, .un, .un, .un, .un, .un, .un, .un, .un, .un, .un, .un, .un, .un, .un, .un, .un, .un, .un, .un, .un, .un, .un, .un, .un, .un, .un, .un, .un, .un, .un, .un, .un, .un, .un, .un, .un, .un, .un, .un, .un, .un, .un], []⟩⟩, ⟨(.ex 0), ⟨[(9, none), (10, none)]⟩, ⟨[.un, .un, .un, .un, .un, .un, .un, .un, .un, .v (.obj 0), .v (.list I64), .un, .un, .un, .un, .un, .un, .un, .un, .un, .un, .un, .un, .un, .un, .un, .un, .un, .un, .un, .un, .un, .un, .un, .un, .un, .un, .un, .un, .un, .un, .un, .un, .un, .un, .un, .un, .un, .un, .un, .un, .un, .un, .un, .un, .un, .un, .un, .un, .un, .un, .un, .un, .un, .un, .un, .un, .un, .un, .un, .un, .un, .un, .un, .un, .un, .un, .un, .un, .un, .un, .un, .un, .un, .un, .un, .un, .un, .un, .un, .un, .un, .un, .un, .un, .un, .un, .un, .un, .un, .un, .un, .un, .un, .un, .un, .un, .un, .un, .un, .un, .un, .un, .un, .un, .un, .un, .un, .un, .un, .un, .un, .un, .un, .un, .un, .un, .un, .un, .un, .un, .un, .un, .un, .un, .un, .un, .un, .un, .un, .un, .un, .un, .un, .un, .un], []⟩⟩]
abbrev V12 : Type := (Int × (List Bool) × (Option Gr) × (List Int) × Int × Unit) × (Unit)
abbrev X12 : Type := ((Bool × Unit) × (Unit)) ⊕ (((Option Gr) × (List Int) × Unit) × (Unit))
noncomputable def R12 {R : Type} (n0 : Int) (keep2 : (List Bool)) (g9 : (Option Gr)) (p10 : (List Int)) (v11 : Int) (k : V12 → Option R) (kx : X12 → Option R) : Option R := (if Decidable.decide (v11 < n0) = Bool.true then (if Decidable.decide (v11 < (↑(List.length keep2) : Int)) = Bool.true then (if (0 : Int) ≤ v11 then (if v11 < (↑(List.length keep2) : Int) then (if (!List.getD keep2 (Int.toNat v11) Bool.false) = Bool.true then (if (0 : Int) ≤ v11 then (if v11 < (↑(List.length p10) : Int) then (if (List.getD p10 (Int.toNat v11) (0 : Int) != (-1 : Int)) = Bool.false then (if List.getD keep2 (Int.toNat v11) Bool.false = Bool.true then (if (0 : Int) ≤ v11 then (if v11 < (↑(List.length p10) : Int) then (if Decidable.decide (List.getD p10 (Int.toNat v11) (0 : Int) < (0 : Int)) = Bool.false then (if (0 : Int) ≤ v11 then (if v11 < (↑(List.length p10) : Int) then (if Decidable.decide (List.getD p10 (Int.toNat v11) (0 : Int) > v11) = Bool.false then (if (0 : Int) ≤ v11 then (if v11 < (↑(List.length p10) : Int) then (if (0 : Int) ≤ List.getD p10 (Int.toNat v11) (0 : Int) then (if List.getD p10 (Int.toNat v11) (0 : Int) < (↑(List.length p10) : Int) then (if (0 : Int) ≤ v11 then (if v11 < (↑(List.length p10) : Int) then (if (List.getD p10 (Int.toNat (List.getD p10 (Int.toNat v11) (0 : Int))) (0 : Int) != List.getD p10 (Int.toNat v11) (0 : Int)) = Bool.true then kx (Sum.inl <| ((Bool.false, ()), (())))
 else (if Neighbours.pre g9 v11 = Bool.true then (match F19 (n0) (keep2) (g9) (p10) (v11) (List.getD keep2 (Int.toNat v11) Bool.false) ((Neighbours.fn g9 v11).1) ((0 : Int)) with
  | some (Sum.inl <| ((t6_1, _), _)) => kx (Sum.inl <| ((t6_1, ()), (())))
  | some (Sum.inr <| ((n0_2, keep2_2, g9_2, p10_2, v11_2, _), _)) => k ((n0_2, keep2_2, g9_2, p10_2, IntKind.wrap .i64 (v11_2 + (1 : Int)), ()), (()))
  | none => none)
 else none))
 else none)
 else none)
 else none)
 else none)
 else none)
 else none)
 else kx (Sum.inl <| ((Bool.false, ()), (()))))
 else none)
 else none)
 else kx (Sum.inl <| ((Bool.false, ()), (()))))
 else none)
 else none)
 else (if Neighbours.pre g9 v11 = Bool.true then (match F19 (n0) (keep2) (g9) (p10) (v11) (List.getD keep2 (Int.toNat v11) Bool.false) ((Neighbours.fn g9 v11).1) ((0 : Int)) with
  | some (Sum.inl <| ((t6_3, _), _)) => kx (Sum.inl <| ((t6_3, ()), (())))
  | some (Sum.inr <| ((n0_4, keep2_4, g9_4, p10_4, v11_4, _), _)) => k ((n0_4, keep2_4, g9_4, p10_4, IntKind.wrap .i64 (v11_4 + (1 : Int)), ()), (()))
  | none => none)
 else none))
 else kx (Sum.inl <| ((Bool.false, ()), (()))))
 else none)
 else none)
 else (if List.getD keep2 (Int.toNat v11) Bool.false = Bool.true then (if (0 : Int) ≤ v11 then (if v11 < (↑(List.length p10) : Int) then (if Decidable.decide (List.getD p10 (Int.toNat v11) (0 : Int) < (0 : Int)) = Bool.false then (if (0 : Int) ≤ v11 then (if v11 < (↑(List.length p10) : Int) then (if Decidable.decide (List.getD p10 (Int.toNat v11) (0 : Int) > v11) = Bool.false then (if (0 : Int) ≤ v11 then (if v11 < (↑(List.length p10) : Int) then (if (0 : Int) ≤ List.getD p10 (Int.toNat v11) (0 : Int) then (if List.getD p10 (Int.toNat v11) (0 : Int) < (↑(List.length p10) : Int) then (if (0 : Int) ≤ v11 then (if v11 < (↑(List.length p10) : Int) then (if (List.getD p10 (Int.toNat (List.getD p10 (Int.toNat v11) (0 : Int))) (0 : Int) != List.getD p10 (Int.toNat v11) (0 : Int)) = Bool.true then kx (Sum.inl <| ((Bool.false, ()), (())))
 else (if Neighbours.pre g9 v11 = Bool.true then (match F19 (n0) (keep2) (g9) (p10) (v11) (List.getD keep2 (Int.toNat v11) Bool.false) ((Neighbours.fn g9 v11).1) ((0 : Int)) with
  | some (Sum.inl <| ((t6_5, _), _)) => kx (Sum.inl <| ((t6_5, ()), (())))
  | some (Sum.inr <| ((n0_6, keep2_6, g9_6, p10_6, v11_6, _), _)) => k ((n0_6, keep2_6, g9_6, p10_6, IntKind.wrap .i64 (v11_6 + (1 : Int)), ()), (()))
  | none => none)
 else none))
 else none)
 else none)
 else none)
 else none)
 else none)
 else none)
 else kx (Sum.inl <| ((Bool.false, ()), (()))))
 else none)
 else none)
 else kx (Sum.inl <| ((Bool.false, ()), (()))))
 else none)
 else none)
 else (if Neighbours.pre g9 v11 = Bool.true then (match F19 (n0) (keep2) (g9) (p10) (v11) (List.getD keep2 (Int.toNat v11) Bool.false) ((Neighbours.fn g9 v11).1) ((0 : Int)) with
  | some (Sum.inl <| ((t6_7, _), _)) => kx (Sum.inl <| ((t6_7, ()), (())))
  | some (Sum.inr <| ((n0_8, keep2_8, g9_8, p10_8, v11_8, _), _)) => k ((n0_8, keep2_8, g9_8, p10_8, IntKind.wrap .i64 (v11_8 + (1 : Int)), ()), (()))
  | none => none)
 else none)))
 else none)
 else none)
 else (if (0 : Int) ≤ v11 then (if v11 < (↑(List.length p10) : Int) then (if (List.getD p10 (Int.toNat v11) (0 : Int) != (-1 : Int)) = Bool.false then (if Neighbours.pre g9 v11 = Bool.true then (match F19 (n0) (keep2) (g9) (p10) (v11) (Bool.false) ((Neighbours.fn g9 v11).1) ((0 : Int)) with
  | some (Sum.inl <| ((t6_9, _), _)) => kx (Sum.inl <| ((t6_9, ()), (())))
  | some (Sum.inr <| ((n0_10, keep2_10, g9_10, p10_10, v11_10, _), _)) => k ((n0_10, keep2_10, g9_10, p10_10, IntKind.wrap .i64 (v11_10 + (1 : Int)), ()), (()))
  | none => none)
 else none)
 else kx (Sum.inl <| ((Bool.false, ()), (()))))
 else none)
 else none))
 else kx (Sum.inr <| ((g9, p10, ()), (()))))
noncomputable def rd12 : Rd (VO s12) (Xs x12) := fun v k kx => match v with
  | ((n0, keep2, g9, p10, v11, _), _) => R12 n0 keep2 g9 p10 v11 k kx
noncomputable def F12 (n0 : Int) (keep2 : (List Bool)) (g9 : (Option Gr)) (p10 : (List Int)) (v11 : Int) : Option X12 := finOf rd12 ((n0, keep2, g9, p10, v11, ()), (()))
theorem F12_inv {n0 : Int} {keep2 : (List Bool)} {g9 : (Option Gr)} {p10 : (List Int)} (I : Int → Prop) (μ : Int → Nat) (Q : X12 → Prop) (h : ∀ (v11 : Int), I v11 → Led (fun (R : Type) (k : V12 → Option R) (kx : X12 → Option R) => R12 n0 keep2 g9 p10 v11 k kx) (fun v => ∃ (v11' : Int), v = ((n0, keep2, g9, p10, v11', ()), ()) ∧ I v11' ∧ μ v11' < μ v11) Q) : ∀ (v11 : Int), I v11 → ∃ z, F12 n0 keep2 g9 p10 v11 = some z ∧ Q z := fun v11 hi => by
  refine finOf_inv (V := V12) (X := X12) (rd := rd12) (fun v => ∃ (v11' : Int), v = ((n0, keep2, g9, p10, v11', ()), ()) ∧ I v11') (fun v => match v with
    | ((n0, keep2, g9, p10, v11, _), _) => μ v11) Q (fun v hv => ?_) ((n0, keep2, g9, p10, v11, ()), ()) ⟨v11, rfl, hi⟩
  obtain ⟨v11, rfl, hi⟩ := hv
  refine led_mono (h v11 hi) ?_ (fun _ q => q)
  rintro v ⟨v11', rfl, h1, h2⟩
  exact ⟨⟨v11', rfl, h1⟩, h2⟩
noncomputable def L12 : Lp := ⟨12, ⟨[(0, none), (2, none), (9, none), (10, none), (11, none)]⟩, s12, x12, fun v => match v with
  | ((n0, keep2, g9, p10, v11, _), _) => F12 n0 keep2 g9 p10 v11⟩
theorem ends12 : Ends L12 rd12 := ends_fin (fun v => by
  obtain ⟨⟨n0, keep2, g9, p10, v11, _⟩, ⟨_⟩⟩ := v
  rfl)
noncomputable def env : Env := mkEnv tab [(31, first5.sig), (32, fine.sig), (33, graphOf.sig), (37, Parts.sig), (38, Neighbours.sig), (39, joined.sig)] 0 [(15, [0, 1, 2, 3, 4, 5, 6, 7, 8, 9, 10, 11, 12, 13, 14, 15, 16, 17, 18, 19, 20, 21, 22, 23, 24, 25, 26, 27, 28, 29, 30, 31, 32, 33, 34, 35, 36, 37, 38, 39, 40]), (22, [0, 1, 2, 3, 4, 5, 6, 7, 8, 9, 10, 11, 12, 13, 14])] [L19, L12]
theorem round19 : RoundIs env (sub [true, true, true, true, true, true, true, true, false, true, false, false, true, false, false, true, true, true, true, false, false] code) L19 rd19 := fun R v k kx => by kernel_rfl
theorem round12 : RoundIs env (sub [true, true, true, true, true, true, true, true, false, true, false, false] code) L12 rd12 := fun R v k kx => by kernel_rfl
abbrev D : Type := (Bool × Unit)
noncomputable def run' (n0 : Int) (pairs1 : (List (Int × Int))) (keep2 : (List Bool)) : Option D := (if first5.pre = Bool.true then (if fine.pre n0 pairs1 = Bool.true then (if (!first5.fn.1) = Bool.false then (if (!(fine.fn n0 pairs1).1) = Bool.false then (if Decidable.decide ((↑(List.length keep2) : Int) > (20000 : Int)) = Bool.true then some (first5.fn.1, ())
 else (if graphOf.pre n0 pairs1 = Bool.true then (if Option.isNone (graphOf.fn n0 pairs1).1 = Bool.true then some (Bool.false, ())
 else (if Parts.pre (graphOf.fn n0 pairs1).1 keep2 = Bool.true then (if ((↑(List.length (Parts.fn (graphOf.fn n0 pairs1).1 keep2).1) : Int) != n0) = Bool.true then some (Bool.false, ())
 else (match F12 (n0) (keep2) ((graphOf.fn n0 pairs1).1) ((Parts.fn (graphOf.fn n0 pairs1).1 keep2).1) ((0 : Int)) with
  | some (Sum.inl <| ((t6_11, _), _)) => some (t6_11, ())
  | some (Sum.inr <| ((g9_12, p10_12, _), _)) => (if joined.pre g9_12 p10_12 = Bool.true then some ((joined.fn g9_12 p10_12).1, ())
 else none)
  | none => none))
 else none))
 else none))
 else some (first5.fn.1, ()))
 else some (first5.fn.1, ()))
 else none)
 else none)
noncomputable def run (d : Ds (List.map PM.ty ps)) : Option (Ds (muts ps ++ List.map PM.ty rs)) := match d with
  | (n0, pairs1, keep2, _) => run' n0 pairs1 keep2
theorem run_is : ∀ d, runF env 146 code [6] ps rs d = run d := fun d => by kernel_rfl
theorem loops : LoopsOk env code := loopsOk_of (l := [[true, true, true, true, true, true, true, true, false, true, false, false], [true, true, true, true, true, true, true, true, false, true, false, false, true, false, false, true, true, true, true, false, false]]) (by kernel_rfl) (fun p hp => by
  simp only [List.mem_cons, List.not_mem_nil, or_false] at hp
  rcases hp with rfl | rfl
  · exact loopOk_lp (L := L12) (x := sub [true, true, true, true, true, true, true, true, false, true, false, false] code) (by kernel_rfl) (by simp [L12]) round12 ends12
  · exact loopOk_lp (L := L19) (x := sub [true, true, true, true, true, true, true, true, false, true, false, false, true, false, false, true, true, true, true, false, false] code) (by kernel_rfl) (by simp [L19]) round19 ends19
  )
noncomputable def pre (n0 : Int) (pairs1 : (List (Int × Int))) (keep2 : (List Bool)) : Bool := (run' n0 pairs1 keep2).isSome
noncomputable def fn (n0 : Int) (pairs1 : (List (Int × Int))) (keep2 : (List Bool)) : D := match run' n0 pairs1 keep2 with
  | some x => x
  | none => default
noncomputable def sig : Sig := ⟨ps, rs, fun d => match d with
  | (n0, pairs1, keep2, _) => pre n0 pairs1 keep2, fun d => match d with
  | (n0, pairs1, keep2, _) => fn n0 pairs1 keep2⟩
theorem run_fn (n0 : Int) (pairs1 : (List (Int × Int))) (keep2 : (List Bool)) (h : pre n0 pairs1 keep2 = true) : run' n0 pairs1 keep2 = some (fn n0 pairs1 keep2) := by
  unfold pre at h
  unfold fn
  cases e : run' n0 pairs1 keep2 with
  | some x => rfl
  | none => rw [e] at h; cases h
theorem is_fn (n0 : Int) (pairs1 : (List (Int × Int))) (keep2 : (List Bool)) {x : D} (h : run' n0 pairs1 keep2 = some x) : pre n0 pairs1 keep2 = true ∧ fn n0 pairs1 keep2 = x := by
  unfold pre fn
  rw [h]
  exact ⟨rfl, rfl⟩
theorem sound {ρ : Obs} (hE : EnvOk Go.Proofs.Try.prog ρ env) : Sound Go.Proofs.Try.prog ρ 5 sig := sound_of (fn := Go.Proofs.Try.f5) (c := code) (res := [6]) hE (by kernel_rfl) (by kernel_rfl) (by kernel_rfl) (by kernel_rfl) (by kernel_rfl) loops rfl (show 3 ≤ 146 by decide) (fun d hd => (run_is d).trans (by
  obtain ⟨n0, pairs1, keep2, _⟩ := d
  exact run_fn n0 pairs1 keep2 hd))
theorem enters : Enters Go.Proofs.Try.prog 5 := enters_of (fn := Go.Proofs.Try.f5) (by kernel_rfl) (by kernel_rfl) (by kernel_rfl)
theorem ok {ρ : Obs} (h : ∀ p ∈ ([(31, first5.sig), (32, fine.sig), (33, graphOf.sig), (37, Parts.sig), (38, Neighbours.sig), (39, joined.sig)] : List (FuncId × Sig)), Enters Go.Proofs.Try.prog p.1 ∧ Sound Go.Proofs.Try.prog ρ p.1 p.2) : Enters Go.Proofs.Try.prog 5 ∧ Sound Go.Proofs.Try.prog ρ 5 sig := ⟨enters, sound (envOk_of tabOk h)⟩
theorem okR : Enters Go.Proofs.Try.prog 5 ∧ Sound Go.Proofs.Try.prog rho 5 sig := ok (fun p hp => by
  simp only [List.mem_cons, List.not_mem_nil, or_false] at hp
  rcases hp with rfl | rfl | rfl | rfl | rfl | rfl
  · exact first5.okR
  · exact fine.okR
  · exact graphOf.okR
  · exact Parts.okR
  · exact Neighbours.okR
  · exact joined.okR)
end GraphWays
end Go.Proofs.Ythbojpaghbbnnaa.Z
