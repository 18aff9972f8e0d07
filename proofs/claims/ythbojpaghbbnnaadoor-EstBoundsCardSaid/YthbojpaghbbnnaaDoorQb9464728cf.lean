/- Proved: the statement EstBounds holds whatever is handed in. Condition: none but those of the row. -/
import Derived.Test.YthbojpaghbbnnaaDoorQ6e397a5411
import Derived.Test.YthbojpaghbbnnaaDoorTie
import Derived.Test.YthbojpaghbbnnaaDoorCards
import Derived.Carry
import Derived.SevenTiedAt
namespace Go.Proofs.YthbojpaghbbnnaaDoor.Z
open Go Go.RowKit
set_option linter.unusedVariables false
set_option linter.unusedSimpArgs false
namespace EstBounds
abbrev ps : List PM := [.val I64, .val (.list Pr), .val (.list I64), .val (.list I64)]
abbrev rs : List PM := [.val .bool]
noncomputable abbrev code : Code := (Go.Proofs.Tryd.f8.body.getD .skip)
abbrev s9 : Shape := ⟨[.un, .un, .un, .v (.list I64), .un, .un, .un, .un, .un, .un, .v (.obj 0), .v (.ptr (.one (.list I64))), .row 0, .row 1, .box 2 0, .v I64, .un, .un, .un, .un, .un, .un, .un, .un, .un, .un, .un, .un, .un, .un, .un, .un, .un, .un, .un, .un, .un, .un, .un, .un, .un, .un, .un, .un, .un, .un, .un, .un, .un, .un, .un, .un, .un, .un, .un, .un, .un, .un, .un, .un, .un, .un, .un, .un, .un, .un, .un, .un, .un, .un, .un, .un, .un, .un, .un, .un, .un, .un, .un, .un, .un, .un, .un, .un, .un, .un, .un, .un, .un, .un, .un, .un, .un, .un, .un, .un, .un, .un, .un, .un, .un, .un, .un, .un, .un, .un, .un, .un, .un, .un, .un, .un, .un, .un, .un, .un, .un, .un, .un, .un, .un, .un, .un, .un, .un, .un, .un, .un, .un, .un, .un, .un, .un, .un, .un, .un], [.row (3 : Go.TypeId) I64, .row (3 : Go.TypeId) I64, .cells (25 : Go.TypeId) [.v I64, .row 3, .row 4], .row (3 : Go.TypeId) I64, .row (4 : Go.TypeId) .bool]⟩
abbrev x9 : List Way := [⟨(.ex 0), ⟨[(10, none), (11, none), (12, none), (13, none), (14, none)]⟩, ⟨[.un, .un, .un, .un, .un, .un, .un, .un, .un, .un, .v (.obj 0), .v (.ptr (.one (.list I64))), .row 0, .row 1, .box 2 0, .un, .un, .un, .un, .un, .un, .un, .un, .un, .un, .un, .un, .un, .un, .un, .un, .un, .un, .un, .un, .un, .un, .un, .un, .un, .un, .un, .un, .un, .un, .un, .un, .un, .un, .un, .un, .un, .un, .un, .un, .un, .un, .un, .un, .un, .un, .un, .un, .un, .un, .un, .un, .un, .un, .un, .un, .un, .un, .un, .un, .un, .un, .un, .un, .un, .un, .un, .un, .un, .un, .un, .un, .un, .un, .un, .un, .un, .un, .un, .un, .un, .un, .un, .un, .un, .un, .un, .un, .un, .un, .un, .un, .un, .un, .un, .un, .un, .un, .un, .un, .un, .un, .un, .un, .un, .un, .un, .un, .un, .un, .un, .un, .un, .un, .un, .un, .un, .un, .un, .un, .un], [.row (3 : Go.TypeId) I64, .row (3 : Go.TypeId) I64, .cells (25 : Go.TypeId) [.v I64, .row 3, .row 4], .row (3 : Go.TypeId) I64, .row (4 : Go.TypeId) .bool]⟩⟩]
abbrev V9 : Type := ((List Int) × (Option Gr) × (Option (List Int)) × Int × Unit) × ((List Int) × (List Int) × (Int × Unit) × (List Int) × (List Bool) × Unit)
abbrev X9 : Type := ((Option Gr) × (Option (List Int)) × Unit) × ((List Int) × (List Int) × (Int × Unit) × (List Int) × (List Bool) × Unit)
noncomputable def R9 {R : Type} (more3 : (List Int)) (g10 : (Option Gr)) (k11 : (Option (List Int))) (v15 : Int) (r0 : List Int) (r1 : List Int) (c2x0 : Int) (r3 : List Int) (r4 : List Bool) (k : V9 → Option R) (kx : X9 → Option R) : Option R := (if Decidable.decide (v15 < (↑(List.length r1) : Int)) = Bool.true then (if Decidable.decide (v15 < (↑(List.length more3) : Int)) = Bool.true then (if (0 : Int) ≤ v15 then (if v15 < (↑(List.length more3) : Int) then (if (0 : Int) ≤ v15 then (if v15 < (↑(List.length r1) : Int) then (if (0 : Int) ≤ v15 then (if v15 < (↑(List.length r0) : Int) then (if (0 : Int) ≤ v15 then (if v15 < (↑(List.length r3) : Int) then (if Int.toNat v15 < List.length r3 then (if (0 : Int) ≤ v15 then (if v15 < (↑(List.length r1) : Int) then (if Decidable.decide (List.getD r1 (Int.toNat v15) (0 : Int) > (0 : Int)) = Bool.true then (if Shard.pre k11 v15 = Bool.true then (if (0 : Int) ≤ (Shard.fn k11 v15).1 then (if (Shard.fn k11 v15).1 < (↑(List.length r4) : Int) then (if Int.toNat (Shard.fn k11 v15).1 < List.length r4 then k ((more3, g10, k11, IntKind.wrap .i64 (v15 + (1 : Int)), ()), (r0, r1, (c2x0, ()), List.set r3 (Int.toNat v15) (pickZ Bool.false (List.getD r1 (Int.toNat v15) (0 : Int)) (IntKind.wrap .i64 (List.getD r0 (Int.toNat v15) (0 : Int) + pickZ Bool.false (pickZ Bool.true (0 : Int) (List.getD more3 (Int.toNat v15) (0 : Int))) (1073741824 : Int)))), List.set r4 (Int.toNat (Shard.fn k11 v15).1) Bool.true, ()))
 else none)
 else none)
 else none)
 else none)
 else k ((more3, g10, k11, IntKind.wrap .i64 (v15 + (1 : Int)), ()), (r0, r1, (c2x0, ()), List.set r3 (Int.toNat v15) (pickZ Bool.false (List.getD r1 (Int.toNat v15) (0 : Int)) (IntKind.wrap .i64 (List.getD r0 (Int.toNat v15) (0 : Int) + pickZ Bool.false (pickZ Bool.true (0 : Int) (List.getD more3 (Int.toNat v15) (0 : Int))) (1073741824 : Int)))), r4, ())))
 else none)
 else none)
 else none)
 else none)
 else none)
 else none)
 else none)
 else none)
 else none)
 else none)
 else none)
 else (if (0 : Int) ≤ v15 then (if v15 < (↑(List.length r1) : Int) then (if (0 : Int) ≤ v15 then (if v15 < (↑(List.length r0) : Int) then (if (0 : Int) ≤ v15 then (if v15 < (↑(List.length r3) : Int) then (if Int.toNat v15 < List.length r3 then (if (0 : Int) ≤ v15 then (if v15 < (↑(List.length r1) : Int) then (if Decidable.decide (List.getD r1 (Int.toNat v15) (0 : Int) > (0 : Int)) = Bool.true then (if Shard.pre k11 v15 = Bool.true then (if (0 : Int) ≤ (Shard.fn k11 v15).1 then (if (Shard.fn k11 v15).1 < (↑(List.length r4) : Int) then (if Int.toNat (Shard.fn k11 v15).1 < List.length r4 then k ((more3, g10, k11, IntKind.wrap .i64 (v15 + (1 : Int)), ()), (r0, r1, (c2x0, ()), List.set r3 (Int.toNat v15) (pickZ Bool.false (List.getD r1 (Int.toNat v15) (0 : Int)) (IntKind.wrap .i64 (List.getD r0 (Int.toNat v15) (0 : Int) + pickZ Bool.false (0 : Int) (1073741824 : Int)))), List.set r4 (Int.toNat (Shard.fn k11 v15).1) Bool.true, ()))
 else none)
 else none)
 else none)
 else none)
 else k ((more3, g10, k11, IntKind.wrap .i64 (v15 + (1 : Int)), ()), (r0, r1, (c2x0, ()), List.set r3 (Int.toNat v15) (pickZ Bool.false (List.getD r1 (Int.toNat v15) (0 : Int)) (IntKind.wrap .i64 (List.getD r0 (Int.toNat v15) (0 : Int) + pickZ Bool.false (0 : Int) (1073741824 : Int)))), r4, ())))
 else none)
 else none)
 else none)
 else none)
 else none)
 else none)
 else none)
 else none)
 else none))
 else kx (((g10, k11, ()), (r0, r1, (c2x0, ()), r3, r4, ()))))
noncomputable def rd9 : Rd (VO s9) (Xs x9) := fun v k kx => match v with
  | ((more3, g10, k11, v15, _), (r0, r1, (c2x0, _), r3, r4, _)) => R9 more3 g10 k11 v15 r0 r1 c2x0 r3 r4 k kx
noncomputable def F9 (more3 : (List Int)) (g10 : (Option Gr)) (k11 : (Option (List Int))) (v15 : Int) (r0 : List Int) (r1 : List Int) (c2x0 : Int) (r3 : List Int) (r4 : List Bool) : Option X9 := finOf rd9 ((more3, g10, k11, v15, ()), (r0, r1, (c2x0, ()), r3, r4, ()))
theorem F9_inv {more3 : (List Int)} {g10 : (Option Gr)} {k11 : (Option (List Int))} {r0 : List Int} {r1 : List Int} {c2x0 : Int} (I : Int → List Int → List Bool → Prop) (μ : Int → List Int → List Bool → Nat) (Q : X9 → Prop) (h : ∀ (v15 : Int) (r3 : List Int) (r4 : List Bool), I v15 r3 r4 → Led (fun (R : Type) (k : V9 → Option R) (kx : X9 → Option R) => R9 more3 g10 k11 v15 r0 r1 c2x0 r3 r4 k kx) (fun v => ∃ (v15' : Int) (r3' : List Int) (r4' : List Bool), v = ((more3, g10, k11, v15', ()), (r0, r1, (c2x0, ()), r3', r4', ())) ∧ I v15' r3' r4' ∧ μ v15' r3' r4' < μ v15 r3 r4) Q) : ∀ (v15 : Int) (r3 : List Int) (r4 : List Bool), I v15 r3 r4 → ∃ z, F9 more3 g10 k11 v15 r0 r1 c2x0 r3 r4 = some z ∧ Q z := fun v15 r3 r4 hi => by
  refine finOf_inv (V := V9) (X := X9) (rd := rd9) (fun v => ∃ (v15' : Int) (r3' : List Int) (r4' : List Bool), v = ((more3, g10, k11, v15', ()), (r0, r1, (c2x0, ()), r3', r4', ())) ∧ I v15' r3' r4') (fun v => match v with
    | ((more3, g10, k11, v15, _), (r0, r1, (c2x0, _), r3, r4, _)) => μ v15 r3 r4) Q (fun v hv => ?_) ((more3, g10, k11, v15, ()), (r0, r1, (c2x0, ()), r3, r4, ())) ⟨v15, r3, r4, rfl, hi⟩
  obtain ⟨v15, r3, r4, rfl, hi⟩ := hv
  refine led_mono (h v15 r3 r4 hi) ?_ (fun _ q => q)
  rintro v ⟨v15', r3', r4', rfl, h1, h2⟩
  exact ⟨⟨v15', r3', r4', rfl, h1⟩, h2⟩
noncomputable def L9 : Lp := ⟨9, ⟨[(3, none), (10, none), (11, none), (12, none), (13, none), (14, none), (15, none)]⟩, s9, x9, fun v => match v with
  | ((more3, g10, k11, v15, _), (r0, r1, (c2x0, _), r3, r4, _)) => F9 more3 g10 k11 v15 r0 r1 c2x0 r3 r4⟩
theorem ends9 : Ends L9 rd9 := ends_fin (fun v => by
  obtain ⟨⟨more3, g10, k11, v15, _⟩, ⟨r0, r1, ⟨c2x0, _⟩, r3, r4, _⟩⟩ := v
  rfl)
abbrev s21 : Shape := ⟨[.un, .un, .un, .un, .un, .un, .un, .un, .un, .un, .v (.obj 0), .v (.ptr (.one (.list I64))), .row 0, .v (.list I64), .un, .un, .un, .box 1 0, .un, .v I64, .un, .un, .un, .un, .un, .un, .un, .un, .un, .un, .un, .un, .un, .un, .un, .un, .un, .un, .un, .un, .un, .un, .un, .un, .un, .un, .un, .un, .un, .un, .un, .un, .un, .un, .un, .un, .un, .un, .un, .un, .un, .un, .un, .un, .un, .un, .un, .un, .un, .un, .un, .un, .un, .un, .un, .un, .un, .un, .un, .un, .un, .un, .un, .un, .un, .un, .un, .un, .un, .un, .un, .un, .un, .un, .un, .un, .un, .un, .un, .un, .un, .un, .un, .un, .un, .un, .un, .un, .un, .un, .un, .un, .un, .un, .un, .un, .un, .un, .un, .un, .un, .un, .un, .un, .un, .un, .un, .un, .un, .un, .un, .un, .un, .un, .un, .un], [.row (3 : Go.TypeId) I64, .cells (93 : Go.TypeId) [.v (.ptr (.one (.list I64))), .row 2, .row 3, .row 4, .v I64, .v .bool, .v I64, .v I64, .row 5], .row (3 : Go.TypeId) I64, .row (3 : Go.TypeId) I64, .row (97 : Go.TypeId) (.int .u64), .row (3 : Go.TypeId) I64]⟩
abbrev x21 : List Way := [⟨.rt, ⟨[(8, none)]⟩, ⟨[.un, .un, .un, .un, .un, .un, .un, .un, .v .bool, .un, .un, .un, .un, .un, .un, .un, .un, .un, .un, .un, .un, .un, .un, .un, .un, .un, .un, .un, .un, .un, .un, .un, .un, .un, .un, .un, .un, .un, .un, .un, .un, .un, .un, .un, .un, .un, .un, .un, .un, .un, .un, .un, .un, .un, .un, .un, .un, .un, .un, .un, .un, .un, .un, .un, .un, .un, .un, .un, .un, .un, .un, .un, .un, .un, .un, .un, .un, .un, .un, .un, .un, .un, .un, .un, .un, .un, .un, .un, .un, .un, .un, .un, .un, .un, .un, .un, .un, .un, .un, .un, .un, .un, .un, .un, .un, .un, .un, .un, .un, .un, .un, .un, .un, .un, .un, .un, .un, .un, .un, .un, .un, .un, .un, .un, .un, .un, .un, .un, .un, .un, .un, .un, .un, .un, .un, .un], []⟩⟩, ⟨(.ex 2), ⟨[(12, none), (17, none)]⟩, ⟨[.un, .un, .un, .un, .un, .un, .un, .un, .un, .un, .un, .un, .row 0, .un, .un, .un, .un, .box 1 0, .un, .un, .un, .un, .un, .un, .un, .un, .un, .un, .un, .un, .un, .un, .un, .un, .un, .un, .un, .un, .un, .un, .un, .un, .un, .un, .un, .un, .un, .un, .un, .un, .un, .un, .un, .un, .un, .un, .un, .un, .un, .un, .un, .un, .un, .un, .un, .un, .un, .un, .un, .un, .un, .un, .un, .un, .un, .un, .un, .un, .un, .un, .un, .un, .un, .un, .un, .un, .un, .un, .un, .un, .un, .un, .un, .un, .un, .un, .un, .un, .un, .un, .un, .un, .un, .un, .un, .un, .un, .un, .un, .un, .un, .un, .un, .un, .un, .un, .un, .un, .un, .un, .un, .un, .un, .un, .un, .un, .un, .un, .un, .un, .un, .un, .un, .un, .un, .un], [.row (3 : Go.TypeId) I64, .cells (93 : Go.TypeId) [.v (.ptr (.one (.list I64))), .row 2, .row 3, .row 4, .v I64, .v .bool, .v I64, .v I64, .row 5], .row (3 : Go.TypeId) I64, .row (3 : Go.TypeId) I64, .row (97 : Go.TypeId) (.int .u64), .row (3 : Go.TypeId) I64]⟩⟩]
abbrev V21 : Type := ((Option Gr) × (Option (List Int)) × (List Int) × Int × Unit) × ((List Int) × ((Option (List Int)) × Int × Bool × Int × Int × Unit) × (List Int) × (List Int) × (List Int) × (List Int) × Unit)
abbrev X21 : Type := ((Bool × Unit) × (Unit)) ⊕ ((Unit) × ((List Int) × ((Option (List Int)) × Int × Bool × Int × Int × Unit) × (List Int) × (List Int) × (List Int) × (List Int) × Unit))
noncomputable def R21 {R : Type} (g10 : (Option Gr)) (k11 : (Option (List Int))) (d13 : (List Int)) (i19 : Int) (r0 : List Int) (c1x0 : (Option (List Int))) (c1x4 : Int) (c1x5 : Bool) (c1x6 : Int) (c1x7 : Int) (r2 : List Int) (r3 : List Int) (r4 : List Int) (r5 : List Int) (k : V21 → Option R) (kx : X21 → Option R) : Option R := (if sum17.pre d13 = Bool.true then (if Decidable.decide (i19 ≤ IntKind.wrap .i64 ((1 : Int) + (sum17.fn d13).1)) = Bool.true then (if DoneE.pre c1x0 r2 r3 r4 c1x4 c1x5 c1x6 c1x7 r5 = Bool.true then (letZ (DoneE.fn c1x0 r2 r3 r4 c1x4 c1x5 c1x6 c1x7 r5) fun z__2 =>
 (if (!z__2.2.1) = Bool.true then (if goes.pre z__2.1.1 z__2.1.2.1 z__2.1.2.2.1 z__2.1.2.2.2.1 z__2.1.2.2.2.2.1 z__2.1.2.2.2.2.2.1 z__2.1.2.2.2.2.2.2.1 z__2.1.2.2.2.2.2.2.2.1 z__2.1.2.2.2.2.2.2.2.2.1 g10 k11 = Bool.true then (letZ (goes.fn z__2.1.1 z__2.1.2.1 z__2.1.2.2.1 z__2.1.2.2.2.1 z__2.1.2.2.2.2.1 z__2.1.2.2.2.2.2.1 z__2.1.2.2.2.2.2.2.1 z__2.1.2.2.2.2.2.2.2.1 z__2.1.2.2.2.2.2.2.2.2.1 g10 k11) fun z__3 =>
 (if (!z__3.2.2.1) = Bool.true then kx (Sum.inl <| ((Bool.false, ()), (())))
 else k ((g10, k11, d13, IntKind.wrap .i64 (i19 + (1 : Int)), ()), (r0, (z__3.1.1, z__3.1.2.2.2.2.1, z__3.1.2.2.2.2.2.1, z__3.1.2.2.2.2.2.2.1, z__3.1.2.2.2.2.2.2.2.1, ()), z__3.1.2.1, z__3.1.2.2.1, z__3.1.2.2.2.1, z__3.1.2.2.2.2.2.2.2.2.1, ()))))
 else none)
 else kx (Sum.inr <| ((()), (r0, (z__2.1.1, z__2.1.2.2.2.2.1, z__2.1.2.2.2.2.2.1, z__2.1.2.2.2.2.2.2.1, z__2.1.2.2.2.2.2.2.2.1, ()), z__2.1.2.1, z__2.1.2.2.1, z__2.1.2.2.2.1, z__2.1.2.2.2.2.2.2.2.2.1, ())))))
 else none)
 else kx (Sum.inr <| ((()), (r0, (c1x0, c1x4, c1x5, c1x6, c1x7, ()), r2, r3, r4, r5, ()))))
 else none)
noncomputable def rd21 : Rd (VO s21) (Xs x21) := fun v k kx => match v with
  | ((g10, k11, d13, i19, _), (r0, (c1x0, c1x4, c1x5, c1x6, c1x7, _), r2, r3, r4, r5, _)) => R21 g10 k11 d13 i19 r0 c1x0 c1x4 c1x5 c1x6 c1x7 r2 r3 r4 r5 k kx
noncomputable def F21 (g10 : (Option Gr)) (k11 : (Option (List Int))) (d13 : (List Int)) (i19 : Int) (r0 : List Int) (c1x0 : (Option (List Int))) (c1x4 : Int) (c1x5 : Bool) (c1x6 : Int) (c1x7 : Int) (r2 : List Int) (r3 : List Int) (r4 : List Int) (r5 : List Int) : Option X21 := finOf rd21 ((g10, k11, d13, i19, ()), (r0, (c1x0, c1x4, c1x5, c1x6, c1x7, ()), r2, r3, r4, r5, ()))
theorem F21_inv {g10 : (Option Gr)} {k11 : (Option (List Int))} {d13 : (List Int)} {r0 : List Int} (I : Int → (Option (List Int)) → Int → Bool → Int → Int → List Int → List Int → List Int → List Int → Prop) (μ : Int → (Option (List Int)) → Int → Bool → Int → Int → List Int → List Int → List Int → List Int → Nat) (Q : X21 → Prop) (h : ∀ (i19 : Int) (c1x0 : (Option (List Int))) (c1x4 : Int) (c1x5 : Bool) (c1x6 : Int) (c1x7 : Int) (r2 : List Int) (r3 : List Int) (r4 : List Int) (r5 : List Int), I i19 c1x0 c1x4 c1x5 c1x6 c1x7 r2 r3 r4 r5 → Led (fun (R : Type) (k : V21 → Option R) (kx : X21 → Option R) => R21 g10 k11 d13 i19 r0 c1x0 c1x4 c1x5 c1x6 c1x7 r2 r3 r4 r5 k kx) (fun v => ∃ (i19' : Int) (c1x0' : (Option (List Int))) (c1x4' : Int) (c1x5' : Bool) (c1x6' : Int) (c1x7' : Int) (r2' : List Int) (r3' : List Int) (r4' : List Int) (r5' : List Int), v = ((g10, k11, d13, i19', ()), (r0, (c1x0', c1x4', c1x5', c1x6', c1x7', ()), r2', r3', r4', r5', ())) ∧ I i19' c1x0' c1x4' c1x5' c1x6' c1x7' r2' r3' r4' r5' ∧ μ i19' c1x0' c1x4' c1x5' c1x6' c1x7' r2' r3' r4' r5' < μ i19 c1x0 c1x4 c1x5 c1x6 c1x7 r2 r3 r4 r5) Q) : ∀ (i19 : Int) (c1x0 : (Option (List Int))) (c1x4 : Int) (c1x5 : Bool) (c1x6 : Int) (c1x7 : Int) (r2 : List Int) (r3 : List Int) (r4 : List Int) (r5 : List Int), I i19 c1x0 c1x4 c1x5 c1x6 c1x7 r2 r3 r4 r5 → ∃ z, F21 g10 k11 d13 i19 r0 c1x0 c1x4 c1x5 c1x6 c1x7 r2 r3 r4 r5 = some z ∧ Q z := fun i19 c1x0 c1x4 c1x5 c1x6 c1x7 r2 r3 r4 r5 hi => by
  refine finOf_inv (V := V21) (X := X21) (rd := rd21) (fun v => ∃ (i19' : Int) (c1x0' : (Option (List Int))) (c1x4' : Int) (c1x5' : Bool) (c1x6' : Int) (c1x7' : Int) (r2' : List Int) (r3' : List Int) (r4' : List Int) (r5' : List Int), v = ((g10, k11, d13, i19', ()), (r0, (c1x0', c1x4', c1x5', c1x6', c1x7', ()), r2', r3', r4', r5', ())) ∧ I i19' c1x0' c1x4' c1x5' c1x6' c1x7' r2' r3' r4' r5') (fun v => match v with
    | ((g10, k11, d13, i19, _), (r0, (c1x0, c1x4, c1x5, c1x6, c1x7, _), r2, r3, r4, r5, _)) => μ i19 c1x0 c1x4 c1x5 c1x6 c1x7 r2 r3 r4 r5) Q (fun v hv => ?_) ((g10, k11, d13, i19, ()), (r0, (c1x0, c1x4, c1x5, c1x6, c1x7, ()), r2, r3, r4, r5, ())) ⟨i19, c1x0, c1x4, c1x5, c1x6, c1x7, r2, r3, r4, r5, rfl, hi⟩
  obtain ⟨i19, c1x0, c1x4, c1x5, c1x6, c1x7, r2, r3, r4, r5, rfl, hi⟩ := hv
  refine led_mono (h i19 c1x0 c1x4 c1x5 c1x6 c1x7 r2 r3 r4 r5 hi) ?_ (fun _ q => q)
  rintro v ⟨i19', c1x0', c1x4', c1x5', c1x6', c1x7', r2', r3', r4', r5', rfl, h1, h2⟩
  exact ⟨⟨i19', c1x0', c1x4', c1x5', c1x6', c1x7', r2', r3', r4', r5', rfl, h1⟩, h2⟩
noncomputable def L21 : Lp := ⟨21, ⟨[(10, none), (11, none), (12, none), (13, none), (17, none), (19, none)]⟩, s21, x21, fun v => match v with
  | ((g10, k11, d13, i19, _), (r0, (c1x0, c1x4, c1x5, c1x6, c1x7, _), r2, r3, r4, r5, _)) => F21 g10 k11 d13 i19 r0 c1x0 c1x4 c1x5 c1x6 c1x7 r2 r3 r4 r5⟩
theorem ends21 : Ends L21 rd21 := ends_fin (fun v => by
  obtain ⟨⟨g10, k11, d13, i19, _⟩, ⟨r0, ⟨c1x0, c1x4, c1x5, c1x6, c1x7, _⟩, r2, r3, r4, r5, _⟩⟩ := v
  rfl)
noncomputable def env : Env := mkEnvK tabD [(9, first17.sig), (13, shape.sig), (37, Cores.sig), (15, degrees17.sig), (22, Shards.sig), (32, Shard.sig), (34, FromE.sig), (16, num17.sig), (17, sum17.sig), (18, DoneE.sig), (20, goes.sig), (21, SameIntsH.sig), (25, BoundsE.sig)] 0 (fixL ps) [(14, [0, 1, 2, 3, 4, 5, 6, 7, 8, 9, 10, 11, 12, 13, 14, 15, 16]), (16, [0, 1, 2, 3, 4, 5, 6])] [(7, (.step 0 (.step 1 (.step 3 (.alt 2 (.alt 4 (.alt 5 (.step 6 (.step 7 (.step 8 .nil))) (.step 7 (.step 5 (.step 6 (.step 8 .nil))))) (.step 7 (.step 4 (.step 5 (.step 6 (.step 8 .nil)))))) (.alt 4 (.alt 2 (.alt 5 (.step 6 (.step 7 (.step 8 .nil))) (.step 7 (.step 5 (.step 6 (.step 8 .nil))))) (.alt 5 (.alt 2 (.step 6 (.step 7 (.step 8 .nil))) (.step 7 (.step 2 (.step 6 (.step 8 .nil))))) (.step 7 (.alt 2 (.step 5 (.step 6 (.step 8 .nil))) (.step 5 (.step 2 (.step 6 (.step 8 .nil)))))))) (.step 7 (.alt 2 (.step 4 (.step 5 (.step 6 (.step 8 .nil)))) (.step 4 (.alt 2 (.step 5 (.step 6 (.step 8 .nil))) (.step 5 (.step 2 (.step 6 (.step 8 .nil))))))))))))))] [L9, L21]
theorem round9 : RoundIs env (sub [true, true, true, true, true, true, true, false, true, false, false] code) L9 rd9 := fun R v k kx => by kernel_rfl
theorem round21 : RoundIs env (sub [true, true, true, true, true, true, true, true, true, true, false, true, false, false] code) L21 rd21 := fun R v k kx => by kernel_rfl
abbrev D : Type := (Bool × Unit)
noncomputable def run' (n0 : Int) (pairs1 : (List (Int × Int))) (sizes2 : (List Int)) (more3 : (List Int)) : Option D := (if first17.pre = Bool.true then (if shape.pre n0 pairs1 sizes2 = Bool.true then (if (!first17.fn.1) = Bool.false then (if Option.isNone (shape.fn n0 pairs1 sizes2).1 = Bool.false then (if Option.isNone (shape.fn n0 pairs1 sizes2).2.1 = Bool.true then some (Bool.false, ())
 else (if Cores.pre (shape.fn n0 pairs1 sizes2).1 = Bool.true then (if degrees17.pre (shape.fn n0 pairs1 sizes2).1 = Bool.true then (bothK (if (↑(List.length (degrees17.fn (shape.fn n0 pairs1 sizes2).1).1) : Int) = (↑(List.length (degrees17.fn (shape.fn n0 pairs1 sizes2).1).1) : Int) then (if Int.toNat (↑(List.length (degrees17.fn (shape.fn n0 pairs1 sizes2).1).1) : Int) * (8 : Nat) ≤ (140737488355328 : Nat) then (bothK (if Shards.pre (shape.fn n0 pairs1 sizes2).2.1 = Bool.true then (bothK (if (Shards.fn (shape.fn n0 pairs1 sizes2).2.1).1 = (Shards.fn (shape.fn n0 pairs1 sizes2).2.1).1 then (if (0 : Int) ≤ (Shards.fn (shape.fn n0 pairs1 sizes2).2.1).1 then (if Int.toNat (Shards.fn (shape.fn n0 pairs1 sizes2).2.1).1 * (1 : Nat) ≤ (140737488355328 : Nat) then (match F9 (more3) ((shape.fn n0 pairs1 sizes2).1) ((shape.fn n0 pairs1 sizes2).2.1) ((0 : Int)) ((Cores.fn (shape.fn n0 pairs1 sizes2).1).1) ((degrees17.fn (shape.fn n0 pairs1 sizes2).1).1) ((0 : Int)) (List.replicate (Int.toNat (↑(List.length (degrees17.fn (shape.fn n0 pairs1 sizes2).1).1) : Int)) (0 : Int)) (List.replicate (Int.toNat (Shards.fn (shape.fn n0 pairs1 sizes2).2.1).1) Bool.false) with
  | some (((g10_1, k11_1, _), (r0_1, r1_1, (c2x0_1, _), r3_1, r4_1, _))) => (if FromE.pre k11_1 r1_1 (c2x0_1, r3_1, r4_1) = Bool.true then (letZ (FromE.fn k11_1 r1_1 (c2x0_1, r3_1, r4_1)) fun z__1 =>
 (if Option.isNone z__1.1 = Bool.true then some (Bool.false, ())
 else (if num17.pre z__1.2.1 = Bool.true then (if ((num17.fn z__1.2.1).1 != (0 : Int)) = Bool.true then some (Bool.false, ())
 else (match F21 (g10_1) (k11_1) (r1_1) ((0 : Int)) (r0_1) ((Option.getD z__1.1 (Option.none, [], [], [], (0 : Int), Bool.false, (0 : Int), (0 : Int), [], Bool.false)).1) ((Option.getD z__1.1 (Option.none, [], [], [], (0 : Int), Bool.false, (0 : Int), (0 : Int), [], Bool.false)).2.2.2.2.1) ((Option.getD z__1.1 (Option.none, [], [], [], (0 : Int), Bool.false, (0 : Int), (0 : Int), [], Bool.false)).2.2.2.2.2.1) ((Option.getD z__1.1 (Option.none, [], [], [], (0 : Int), Bool.false, (0 : Int), (0 : Int), [], Bool.false)).2.2.2.2.2.2.1) ((Option.getD z__1.1 (Option.none, [], [], [], (0 : Int), Bool.false, (0 : Int), (0 : Int), [], Bool.false)).2.2.2.2.2.2.2.1) ((Option.getD z__1.1 (Option.none, [], [], [], (0 : Int), Bool.false, (0 : Int), (0 : Int), [], Bool.false)).2.1) ((Option.getD z__1.1 (Option.none, [], [], [], (0 : Int), Bool.false, (0 : Int), (0 : Int), [], Bool.false)).2.2.1) ((Option.getD z__1.1 (Option.none, [], [], [], (0 : Int), Bool.false, (0 : Int), (0 : Int), [], Bool.false)).2.2.2.1) ((Option.getD z__1.1 (Option.none, [], [], [], (0 : Int), Bool.false, (0 : Int), (0 : Int), [], Bool.false)).2.2.2.2.2.2.2.2.1) with
  | some (Sum.inl <| ((t8_5, _), _)) => some (t8_5, ())
  | some (Sum.inr <| (_, (r0_6, (c1x0_6, c1x4_6, c1x5_6, c1x6_6, c1x7_6, _), r2_6, r3_6, r4_6, r5_6, _))) => (if DoneE.pre c1x0_6 r2_6 r3_6 r4_6 c1x4_6 c1x5_6 c1x6_6 c1x7_6 r5_6 = Bool.true then (letZ (DoneE.fn c1x0_6 r2_6 r3_6 r4_6 c1x4_6 c1x5_6 c1x6_6 c1x7_6 r5_6) fun z__6 =>
 (if z__6.2.1 = Bool.true then (if BoundsE.pre z__6.1.1 z__6.1.2.1 z__6.1.2.2.1 z__6.1.2.2.2.1 z__6.1.2.2.2.2.1 z__6.1.2.2.2.2.2.1 z__6.1.2.2.2.2.2.2.1 z__6.1.2.2.2.2.2.2.2.1 z__6.1.2.2.2.2.2.2.2.2.1 = Bool.true then (letZ (BoundsE.fn z__6.1.1 z__6.1.2.1 z__6.1.2.2.1 z__6.1.2.2.2.1 z__6.1.2.2.2.2.1 z__6.1.2.2.2.2.2.1 z__6.1.2.2.2.2.2.2.1 z__6.1.2.2.2.2.2.2.2.1 z__6.1.2.2.2.2.2.2.2.2.1) fun z__7 =>
 (if SameIntsH.pre z__7.2.1 r0_6 = Bool.true then some ((SameIntsH.fn z__7.2.1 r0_6).1, ())
 else none))
 else none)
 else some (Bool.false, ())))
 else none)
  | none => none))
 else none)))
 else none)
  | none => none)
 else none)
 else none)
 else none)
 (if (Shards.fn (shape.fn n0 pairs1 sizes2).2.1).1 = (Shards.fn (shape.fn n0 pairs1 sizes2).2.1).1 then (if (0 : Int) ≤ (Shards.fn (shape.fn n0 pairs1 sizes2).2.1).1 then (if Int.toNat (Shards.fn (shape.fn n0 pairs1 sizes2).2.1).1 * (1 : Nat) ≤ (140737488355328 : Nat) then (match F9 (more3) ((shape.fn n0 pairs1 sizes2).1) ((shape.fn n0 pairs1 sizes2).2.1) ((0 : Int)) ((Cores.fn (shape.fn n0 pairs1 sizes2).1).1) ((degrees17.fn (shape.fn n0 pairs1 sizes2).1).1) ((0 : Int)) (List.replicate (Int.toNat (↑(List.length (degrees17.fn (shape.fn n0 pairs1 sizes2).1).1) : Int)) (0 : Int)) (List.replicate (Int.toNat (Shards.fn (shape.fn n0 pairs1 sizes2).2.1).1) Bool.false) with
  | some (((g10_9, k11_9, _), (r0_9, r1_9, (c2x0_9, _), r3_9, r4_9, _))) => (if FromE.pre k11_9 r1_9 (c2x0_9, r3_9, r4_9) = Bool.true then (letZ (FromE.fn k11_9 r1_9 (c2x0_9, r3_9, r4_9)) fun z__9 =>
 (if Option.isNone z__9.1 = Bool.true then some (Bool.false, ())
 else (if num17.pre z__9.2.1 = Bool.true then (if ((num17.fn z__9.2.1).1 != (0 : Int)) = Bool.true then some (Bool.false, ())
 else (match F21 (g10_9) (k11_9) (r1_9) ((0 : Int)) (r0_9) ((Option.getD z__9.1 (Option.none, [], [], [], (0 : Int), Bool.false, (0 : Int), (0 : Int), [], Bool.false)).1) ((Option.getD z__9.1 (Option.none, [], [], [], (0 : Int), Bool.false, (0 : Int), (0 : Int), [], Bool.false)).2.2.2.2.1) ((Option.getD z__9.1 (Option.none, [], [], [], (0 : Int), Bool.false, (0 : Int), (0 : Int), [], Bool.false)).2.2.2.2.2.1) ((Option.getD z__9.1 (Option.none, [], [], [], (0 : Int), Bool.false, (0 : Int), (0 : Int), [], Bool.false)).2.2.2.2.2.2.1) ((Option.getD z__9.1 (Option.none, [], [], [], (0 : Int), Bool.false, (0 : Int), (0 : Int), [], Bool.false)).2.2.2.2.2.2.2.1) ((Option.getD z__9.1 (Option.none, [], [], [], (0 : Int), Bool.false, (0 : Int), (0 : Int), [], Bool.false)).2.1) ((Option.getD z__9.1 (Option.none, [], [], [], (0 : Int), Bool.false, (0 : Int), (0 : Int), [], Bool.false)).2.2.1) ((Option.getD z__9.1 (Option.none, [], [], [], (0 : Int), Bool.false, (0 : Int), (0 : Int), [], Bool.false)).2.2.2.1) ((Option.getD z__9.1 (Option.none, [], [], [], (0 : Int), Bool.false, (0 : Int), (0 : Int), [], Bool.false)).2.2.2.2.2.2.2.2.1) with
  | some (Sum.inl <| ((t8_11, _), _)) => some (t8_11, ())
  | some (Sum.inr <| (_, (r0_12, (c1x0_12, c1x4_12, c1x5_12, c1x6_12, c1x7_12, _), r2_12, r3_12, r4_12, r5_12, _))) => (if DoneE.pre c1x0_12 r2_12 r3_12 r4_12 c1x4_12 c1x5_12 c1x6_12 c1x7_12 r5_12 = Bool.true then (letZ (DoneE.fn c1x0_12 r2_12 r3_12 r4_12 c1x4_12 c1x5_12 c1x6_12 c1x7_12 r5_12) fun z__12 =>
 (if z__12.2.1 = Bool.true then (if BoundsE.pre z__12.1.1 z__12.1.2.1 z__12.1.2.2.1 z__12.1.2.2.2.1 z__12.1.2.2.2.2.1 z__12.1.2.2.2.2.2.1 z__12.1.2.2.2.2.2.2.1 z__12.1.2.2.2.2.2.2.2.1 z__12.1.2.2.2.2.2.2.2.2.1 = Bool.true then (letZ (BoundsE.fn z__12.1.1 z__12.1.2.1 z__12.1.2.2.1 z__12.1.2.2.2.1 z__12.1.2.2.2.2.1 z__12.1.2.2.2.2.2.1 z__12.1.2.2.2.2.2.2.1 z__12.1.2.2.2.2.2.2.2.1 z__12.1.2.2.2.2.2.2.2.2.1) fun z__13 =>
 (if SameIntsH.pre z__13.2.1 r0_12 = Bool.true then some ((SameIntsH.fn z__13.2.1 r0_12).1, ())
 else none))
 else none)
 else some (Bool.false, ())))
 else none)
  | none => none))
 else none)))
 else none)
  | none => none)
 else none)
 else none)
 else none))
 else none)
 (if Shards.pre (shape.fn n0 pairs1 sizes2).2.1 = Bool.true then (if (Shards.fn (shape.fn n0 pairs1 sizes2).2.1).1 = (Shards.fn (shape.fn n0 pairs1 sizes2).2.1).1 then (if (0 : Int) ≤ (Shards.fn (shape.fn n0 pairs1 sizes2).2.1).1 then (if Int.toNat (Shards.fn (shape.fn n0 pairs1 sizes2).2.1).1 * (1 : Nat) ≤ (140737488355328 : Nat) then (match F9 (more3) ((shape.fn n0 pairs1 sizes2).1) ((shape.fn n0 pairs1 sizes2).2.1) ((0 : Int)) ((Cores.fn (shape.fn n0 pairs1 sizes2).1).1) ((degrees17.fn (shape.fn n0 pairs1 sizes2).1).1) ((0 : Int)) (List.replicate (Int.toNat (↑(List.length (degrees17.fn (shape.fn n0 pairs1 sizes2).1).1) : Int)) (0 : Int)) (List.replicate (Int.toNat (Shards.fn (shape.fn n0 pairs1 sizes2).2.1).1) Bool.false) with
  | some (((g10_15, k11_15, _), (r0_15, r1_15, (c2x0_15, _), r3_15, r4_15, _))) => (if FromE.pre k11_15 r1_15 (c2x0_15, r3_15, r4_15) = Bool.true then (letZ (FromE.fn k11_15 r1_15 (c2x0_15, r3_15, r4_15)) fun z__15 =>
 (if Option.isNone z__15.1 = Bool.true then some (Bool.false, ())
 else (if num17.pre z__15.2.1 = Bool.true then (if ((num17.fn z__15.2.1).1 != (0 : Int)) = Bool.true then some (Bool.false, ())
 else (match F21 (g10_15) (k11_15) (r1_15) ((0 : Int)) (r0_15) ((Option.getD z__15.1 (Option.none, [], [], [], (0 : Int), Bool.false, (0 : Int), (0 : Int), [], Bool.false)).1) ((Option.getD z__15.1 (Option.none, [], [], [], (0 : Int), Bool.false, (0 : Int), (0 : Int), [], Bool.false)).2.2.2.2.1) ((Option.getD z__15.1 (Option.none, [], [], [], (0 : Int), Bool.false, (0 : Int), (0 : Int), [], Bool.false)).2.2.2.2.2.1) ((Option.getD z__15.1 (Option.none, [], [], [], (0 : Int), Bool.false, (0 : Int), (0 : Int), [], Bool.false)).2.2.2.2.2.2.1) ((Option.getD z__15.1 (Option.none, [], [], [], (0 : Int), Bool.false, (0 : Int), (0 : Int), [], Bool.false)).2.2.2.2.2.2.2.1) ((Option.getD z__15.1 (Option.none, [], [], [], (0 : Int), Bool.false, (0 : Int), (0 : Int), [], Bool.false)).2.1) ((Option.getD z__15.1 (Option.none, [], [], [], (0 : Int), Bool.false, (0 : Int), (0 : Int), [], Bool.false)).2.2.1) ((Option.getD z__15.1 (Option.none, [], [], [], (0 : Int), Bool.false, (0 : Int), (0 : Int), [], Bool.false)).2.2.2.1) ((Option.getD z__15.1 (Option.none, [], [], [], (0 : Int), Bool.false, (0 : Int), (0 : Int), [], Bool.false)).2.2.2.2.2.2.2.2.1) with
  | some (Sum.inl <| ((t8_17, _), _)) => some (t8_17, ())
  | some (Sum.inr <| (_, (r0_18, (c1x0_18, c1x4_18, c1x5_18, c1x6_18, c1x7_18, _), r2_18, r3_18, r4_18, r5_18, _))) => (if DoneE.pre c1x0_18 r2_18 r3_18 r4_18 c1x4_18 c1x5_18 c1x6_18 c1x7_18 r5_18 = Bool.true then (letZ (DoneE.fn c1x0_18 r2_18 r3_18 r4_18 c1x4_18 c1x5_18 c1x6_18 c1x7_18 r5_18) fun z__18 =>
 (if z__18.2.1 = Bool.true then (if BoundsE.pre z__18.1.1 z__18.1.2.1 z__18.1.2.2.1 z__18.1.2.2.2.1 z__18.1.2.2.2.2.1 z__18.1.2.2.2.2.2.1 z__18.1.2.2.2.2.2.2.1 z__18.1.2.2.2.2.2.2.2.1 z__18.1.2.2.2.2.2.2.2.2.1 = Bool.true then (letZ (BoundsE.fn z__18.1.1 z__18.1.2.1 z__18.1.2.2.1 z__18.1.2.2.2.1 z__18.1.2.2.2.2.1 z__18.1.2.2.2.2.2.1 z__18.1.2.2.2.2.2.2.1 z__18.1.2.2.2.2.2.2.2.1 z__18.1.2.2.2.2.2.2.2.2.1) fun z__19 =>
 (if SameIntsH.pre z__19.2.1 r0_18 = Bool.true then some ((SameIntsH.fn z__19.2.1 r0_18).1, ())
 else none))
 else none)
 else some (Bool.false, ())))
 else none)
  | none => none))
 else none)))
 else none)
  | none => none)
 else none)
 else none)
 else none)
 else none))
 else none)
 else none)
 (bothK (if Shards.pre (shape.fn n0 pairs1 sizes2).2.1 = Bool.true then (bothK (if (↑(List.length (degrees17.fn (shape.fn n0 pairs1 sizes2).1).1) : Int) = (↑(List.length (degrees17.fn (shape.fn n0 pairs1 sizes2).1).1) : Int) then (if Int.toNat (↑(List.length (degrees17.fn (shape.fn n0 pairs1 sizes2).1).1) : Int) * (8 : Nat) ≤ (140737488355328 : Nat) then (bothK (if (Shards.fn (shape.fn n0 pairs1 sizes2).2.1).1 = (Shards.fn (shape.fn n0 pairs1 sizes2).2.1).1 then (if (0 : Int) ≤ (Shards.fn (shape.fn n0 pairs1 sizes2).2.1).1 then (if Int.toNat (Shards.fn (shape.fn n0 pairs1 sizes2).2.1).1 * (1 : Nat) ≤ (140737488355328 : Nat) then (match F9 (more3) ((shape.fn n0 pairs1 sizes2).1) ((shape.fn n0 pairs1 sizes2).2.1) ((0 : Int)) ((Cores.fn (shape.fn n0 pairs1 sizes2).1).1) ((degrees17.fn (shape.fn n0 pairs1 sizes2).1).1) ((0 : Int)) (List.replicate (Int.toNat (↑(List.length (degrees17.fn (shape.fn n0 pairs1 sizes2).1).1) : Int)) (0 : Int)) (List.replicate (Int.toNat (Shards.fn (shape.fn n0 pairs1 sizes2).2.1).1) Bool.false) with
  | some (((g10_21, k11_21, _), (r0_21, r1_21, (c2x0_21, _), r3_21, r4_21, _))) => (if FromE.pre k11_21 r1_21 (c2x0_21, r3_21, r4_21) = Bool.true then (letZ (FromE.fn k11_21 r1_21 (c2x0_21, r3_21, r4_21)) fun z__21 =>
 (if Option.isNone z__21.1 = Bool.true then some (Bool.false, ())
 else (if num17.pre z__21.2.1 = Bool.true then (if ((num17.fn z__21.2.1).1 != (0 : Int)) = Bool.true then some (Bool.false, ())
 else (match F21 (g10_21) (k11_21) (r1_21) ((0 : Int)) (r0_21) ((Option.getD z__21.1 (Option.none, [], [], [], (0 : Int), Bool.false, (0 : Int), (0 : Int), [], Bool.false)).1) ((Option.getD z__21.1 (Option.none, [], [], [], (0 : Int), Bool.false, (0 : Int), (0 : Int), [], Bool.false)).2.2.2.2.1) ((Option.getD z__21.1 (Option.none, [], [], [], (0 : Int), Bool.false, (0 : Int), (0 : Int), [], Bool.false)).2.2.2.2.2.1) ((Option.getD z__21.1 (Option.none, [], [], [], (0 : Int), Bool.false, (0 : Int), (0 : Int), [], Bool.false)).2.2.2.2.2.2.1) ((Option.getD z__21.1 (Option.none, [], [], [], (0 : Int), Bool.false, (0 : Int), (0 : Int), [], Bool.false)).2.2.2.2.2.2.2.1) ((Option.getD z__21.1 (Option.none, [], [], [], (0 : Int), Bool.false, (0 : Int), (0 : Int), [], Bool.false)).2.1) ((Option.getD z__21.1 (Option.none, [], [], [], (0 : Int), Bool.false, (0 : Int), (0 : Int), [], Bool.false)).2.2.1) ((Option.getD z__21.1 (Option.none, [], [], [], (0 : Int), Bool.false, (0 : Int), (0 : Int), [], Bool.false)).2.2.2.1) ((Option.getD z__21.1 (Option.none, [], [], [], (0 : Int), Bool.false, (0 : Int), (0 : Int), [], Bool.false)).2.2.2.2.2.2.2.2.1) with
  | some (Sum.inl <| ((t8_23, _), _)) => some (t8_23, ())
  | some (Sum.inr <| (_, (r0_24, (c1x0_24, c1x4_24, c1x5_24, c1x6_24, c1x7_24, _), r2_24, r3_24, r4_24, r5_24, _))) => (if DoneE.pre c1x0_24 r2_24 r3_24 r4_24 c1x4_24 c1x5_24 c1x6_24 c1x7_24 r5_24 = Bool.true then (letZ (DoneE.fn c1x0_24 r2_24 r3_24 r4_24 c1x4_24 c1x5_24 c1x6_24 c1x7_24 r5_24) fun z__24 =>
 (if z__24.2.1 = Bool.true then (if BoundsE.pre z__24.1.1 z__24.1.2.1 z__24.1.2.2.1 z__24.1.2.2.2.1 z__24.1.2.2.2.2.1 z__24.1.2.2.2.2.2.1 z__24.1.2.2.2.2.2.2.1 z__24.1.2.2.2.2.2.2.2.1 z__24.1.2.2.2.2.2.2.2.2.1 = Bool.true then (letZ (BoundsE.fn z__24.1.1 z__24.1.2.1 z__24.1.2.2.1 z__24.1.2.2.2.1 z__24.1.2.2.2.2.1 z__24.1.2.2.2.2.2.1 z__24.1.2.2.2.2.2.2.1 z__24.1.2.2.2.2.2.2.2.1 z__24.1.2.2.2.2.2.2.2.2.1) fun z__25 =>
 (if SameIntsH.pre z__25.2.1 r0_24 = Bool.true then some ((SameIntsH.fn z__25.2.1 r0_24).1, ())
 else none))
 else none)
 else some (Bool.false, ())))
 else none)
  | none => none))
 else none)))
 else none)
  | none => none)
 else none)
 else none)
 else none)
 (if (Shards.fn (shape.fn n0 pairs1 sizes2).2.1).1 = (Shards.fn (shape.fn n0 pairs1 sizes2).2.1).1 then (if (0 : Int) ≤ (Shards.fn (shape.fn n0 pairs1 sizes2).2.1).1 then (if Int.toNat (Shards.fn (shape.fn n0 pairs1 sizes2).2.1).1 * (1 : Nat) ≤ (140737488355328 : Nat) then (match F9 (more3) ((shape.fn n0 pairs1 sizes2).1) ((shape.fn n0 pairs1 sizes2).2.1) ((0 : Int)) ((Cores.fn (shape.fn n0 pairs1 sizes2).1).1) ((degrees17.fn (shape.fn n0 pairs1 sizes2).1).1) ((0 : Int)) (List.replicate (Int.toNat (↑(List.length (degrees17.fn (shape.fn n0 pairs1 sizes2).1).1) : Int)) (0 : Int)) (List.replicate (Int.toNat (Shards.fn (shape.fn n0 pairs1 sizes2).2.1).1) Bool.false) with
  | some (((g10_27, k11_27, _), (r0_27, r1_27, (c2x0_27, _), r3_27, r4_27, _))) => (if FromE.pre k11_27 r1_27 (c2x0_27, r3_27, r4_27) = Bool.true then (letZ (FromE.fn k11_27 r1_27 (c2x0_27, r3_27, r4_27)) fun z__27 =>
 (if Option.isNone z__27.1 = Bool.true then some (Bool.false, ())
 else (if num17.pre z__27.2.1 = Bool.true then (if ((num17.fn z__27.2.1).1 != (0 : Int)) = Bool.true then some (Bool.false, ())
 else (match F21 (g10_27) (k11_27) (r1_27) ((0 : Int)) (r0_27) ((Option.getD z__27.1 (Option.none, [], [], [], (0 : Int), Bool.false, (0 : Int), (0 : Int), [], Bool.false)).1) ((Option.getD z__27.1 (Option.none, [], [], [], (0 : Int), Bool.false, (0 : Int), (0 : Int), [], Bool.false)).2.2.2.2.1) ((Option.getD z__27.1 (Option.none, [], [], [], (0 : Int), Bool.false, (0 : Int), (0 : Int), [], Bool.false)).2.2.2.2.2.1) ((Option.getD z__27.1 (Option.none, [], [], [], (0 : Int), Bool.false, (0 : Int), (0 : Int), [], Bool.false)).2.2.2.2.2.2.1) ((Option.getD z__27.1 (Option.none, [], [], [], (0 : Int), Bool.false, (0 : Int), (0 : Int), [], Bool.false)).2.2.2.2.2.2.2.1) ((Option.getD z__27.1 (Option.none, [], [], [], (0 : Int), Bool.false, (0 : Int), (0 : Int), [], Bool.false)).2.1) ((Option.getD z__27.1 (Option.none, [], [], [], (0 : Int), Bool.false, (0 : Int), (0 : Int), [], Bool.false)).2.2.1) ((Option.getD z__27.1 (Option.none, [], [], [], (0 : Int), Bool.false, (0 : Int), (0 : Int), [], Bool.false)).2.2.2.1) ((Option.getD z__27.1 (Option.none, [], [], [], (0 : Int), Bool.false, (0 : Int), (0 : Int), [], Bool.false)).2.2.2.2.2.2.2.2.1) with
  | some (Sum.inl <| ((t8_29, _), _)) => some (t8_29, ())
  | some (Sum.inr <| (_, (r0_30, (c1x0_30, c1x4_30, c1x5_30, c1x6_30, c1x7_30, _), r2_30, r3_30, r4_30, r5_30, _))) => (if DoneE.pre c1x0_30 r2_30 r3_30 r4_30 c1x4_30 c1x5_30 c1x6_30 c1x7_30 r5_30 = Bool.true then (letZ (DoneE.fn c1x0_30 r2_30 r3_30 r4_30 c1x4_30 c1x5_30 c1x6_30 c1x7_30 r5_30) fun z__30 =>
 (if z__30.2.1 = Bool.true then (if BoundsE.pre z__30.1.1 z__30.1.2.1 z__30.1.2.2.1 z__30.1.2.2.2.1 z__30.1.2.2.2.2.1 z__30.1.2.2.2.2.2.1 z__30.1.2.2.2.2.2.2.1 z__30.1.2.2.2.2.2.2.2.1 z__30.1.2.2.2.2.2.2.2.2.1 = Bool.true then (letZ (BoundsE.fn z__30.1.1 z__30.1.2.1 z__30.1.2.2.1 z__30.1.2.2.2.1 z__30.1.2.2.2.2.1 z__30.1.2.2.2.2.2.1 z__30.1.2.2.2.2.2.2.1 z__30.1.2.2.2.2.2.2.2.1 z__30.1.2.2.2.2.2.2.2.2.1) fun z__31 =>
 (if SameIntsH.pre z__31.2.1 r0_30 = Bool.true then some ((SameIntsH.fn z__31.2.1 r0_30).1, ())
 else none))
 else none)
 else some (Bool.false, ())))
 else none)
  | none => none))
 else none)))
 else none)
  | none => none)
 else none)
 else none)
 else none))
 else none)
 else none)
 (bothK (if (Shards.fn (shape.fn n0 pairs1 sizes2).2.1).1 = (Shards.fn (shape.fn n0 pairs1 sizes2).2.1).1 then (if (0 : Int) ≤ (Shards.fn (shape.fn n0 pairs1 sizes2).2.1).1 then (if Int.toNat (Shards.fn (shape.fn n0 pairs1 sizes2).2.1).1 * (1 : Nat) ≤ (140737488355328 : Nat) then (bothK (if (↑(List.length (degrees17.fn (shape.fn n0 pairs1 sizes2).1).1) : Int) = (↑(List.length (degrees17.fn (shape.fn n0 pairs1 sizes2).1).1) : Int) then (if Int.toNat (↑(List.length (degrees17.fn (shape.fn n0 pairs1 sizes2).1).1) : Int) * (8 : Nat) ≤ (140737488355328 : Nat) then (match F9 (more3) ((shape.fn n0 pairs1 sizes2).1) ((shape.fn n0 pairs1 sizes2).2.1) ((0 : Int)) ((Cores.fn (shape.fn n0 pairs1 sizes2).1).1) ((degrees17.fn (shape.fn n0 pairs1 sizes2).1).1) ((0 : Int)) (List.replicate (Int.toNat (↑(List.length (degrees17.fn (shape.fn n0 pairs1 sizes2).1).1) : Int)) (0 : Int)) (List.replicate (Int.toNat (Shards.fn (shape.fn n0 pairs1 sizes2).2.1).1) Bool.false) with
  | some (((g10_33, k11_33, _), (r0_33, r1_33, (c2x0_33, _), r3_33, r4_33, _))) => (if FromE.pre k11_33 r1_33 (c2x0_33, r3_33, r4_33) = Bool.true then (letZ (FromE.fn k11_33 r1_33 (c2x0_33, r3_33, r4_33)) fun z__33 =>
 (if Option.isNone z__33.1 = Bool.true then some (Bool.false, ())
 else (if num17.pre z__33.2.1 = Bool.true then (if ((num17.fn z__33.2.1).1 != (0 : Int)) = Bool.true then some (Bool.false, ())
 else (match F21 (g10_33) (k11_33) (r1_33) ((0 : Int)) (r0_33) ((Option.getD z__33.1 (Option.none, [], [], [], (0 : Int), Bool.false, (0 : Int), (0 : Int), [], Bool.false)).1) ((Option.getD z__33.1 (Option.none, [], [], [], (0 : Int), Bool.false, (0 : Int), (0 : Int), [], Bool.false)).2.2.2.2.1) ((Option.getD z__33.1 (Option.none, [], [], [], (0 : Int), Bool.false, (0 : Int), (0 : Int), [], Bool.false)).2.2.2.2.2.1) ((Option.getD z__33.1 (Option.none, [], [], [], (0 : Int), Bool.false, (0 : Int), (0 : Int), [], Bool.false)).2.2.2.2.2.2.1) ((Option.getD z__33.1 (Option.none, [], [], [], (0 : Int), Bool.false, (0 : Int), (0 : Int), [], Bool.false)).2.2.2.2.2.2.2.1) ((Option.getD z__33.1 (Option.none, [], [], [], (0 : Int), Bool.false, (0 : Int), (0 : Int), [], Bool.false)).2.1) ((Option.getD z__33.1 (Option.none, [], [], [], (0 : Int), Bool.false, (0 : Int), (0 : Int), [], Bool.false)).2.2.1) ((Option.getD z__33.1 (Option.none, [], [], [], (0 : Int), Bool.false, (0 : Int), (0 : Int), [], Bool.false)).2.2.2.1) ((Option.getD z__33.1 (Option.none, [], [], [], (0 : Int), Bool.false, (0 : Int), (0 : Int), [], Bool.false)).2.2.2.2.2.2.2.2.1) with
  | some (Sum.inl <| ((t8_35, _), _)) => some (t8_35, ())
  | some (Sum.inr <| (_, (r0_36, (c1x0_36, c1x4_36, c1x5_36, c1x6_36, c1x7_36, _), r2_36, r3_36, r4_36, r5_36, _))) => (if DoneE.pre c1x0_36 r2_36 r3_36 r4_36 c1x4_36 c1x5_36 c1x6_36 c1x7_36 r5_36 = Bool.true then (letZ (DoneE.fn c1x0_36 r2_36 r3_36 r4_36 c1x4_36 c1x5_36 c1x6_36 c1x7_36 r5_36) fun z__36 =>
 (if z__36.2.1 = Bool.true then (if BoundsE.pre z__36.1.1 z__36.1.2.1 z__36.1.2.2.1 z__36.1.2.2.2.1 z__36.1.2.2.2.2.1 z__36.1.2.2.2.2.2.1 z__36.1.2.2.2.2.2.2.1 z__36.1.2.2.2.2.2.2.2.1 z__36.1.2.2.2.2.2.2.2.2.1 = Bool.true then (letZ (BoundsE.fn z__36.1.1 z__36.1.2.1 z__36.1.2.2.1 z__36.1.2.2.2.1 z__36.1.2.2.2.2.1 z__36.1.2.2.2.2.2.1 z__36.1.2.2.2.2.2.2.1 z__36.1.2.2.2.2.2.2.2.1 z__36.1.2.2.2.2.2.2.2.2.1) fun z__37 =>
 (if SameIntsH.pre z__37.2.1 r0_36 = Bool.true then some ((SameIntsH.fn z__37.2.1 r0_36).1, ())
 else none))
 else none)
 else some (Bool.false, ())))
 else none)
  | none => none))
 else none)))
 else none)
  | none => none)
 else none)
 else none)
 (if (↑(List.length (degrees17.fn (shape.fn n0 pairs1 sizes2).1).1) : Int) = (↑(List.length (degrees17.fn (shape.fn n0 pairs1 sizes2).1).1) : Int) then (if Int.toNat (↑(List.length (degrees17.fn (shape.fn n0 pairs1 sizes2).1).1) : Int) * (8 : Nat) ≤ (140737488355328 : Nat) then (match F9 (more3) ((shape.fn n0 pairs1 sizes2).1) ((shape.fn n0 pairs1 sizes2).2.1) ((0 : Int)) ((Cores.fn (shape.fn n0 pairs1 sizes2).1).1) ((degrees17.fn (shape.fn n0 pairs1 sizes2).1).1) ((0 : Int)) (List.replicate (Int.toNat (↑(List.length (degrees17.fn (shape.fn n0 pairs1 sizes2).1).1) : Int)) (0 : Int)) (List.replicate (Int.toNat (Shards.fn (shape.fn n0 pairs1 sizes2).2.1).1) Bool.false) with
  | some (((g10_39, k11_39, _), (r0_39, r1_39, (c2x0_39, _), r3_39, r4_39, _))) => (if FromE.pre k11_39 r1_39 (c2x0_39, r3_39, r4_39) = Bool.true then (letZ (FromE.fn k11_39 r1_39 (c2x0_39, r3_39, r4_39)) fun z__39 =>
 (if Option.isNone z__39.1 = Bool.true then some (Bool.false, ())
 else (if num17.pre z__39.2.1 = Bool.true then (if ((num17.fn z__39.2.1).1 != (0 : Int)) = Bool.true then some (Bool.false, ())
 else (match F21 (g10_39) (k11_39) (r1_39) ((0 : Int)) (r0_39) ((Option.getD z__39.1 (Option.none, [], [], [], (0 : Int), Bool.false, (0 : Int), (0 : Int), [], Bool.false)).1) ((Option.getD z__39.1 (Option.none, [], [], [], (0 : Int), Bool.false, (0 : Int), (0 : Int), [], Bool.false)).2.2.2.2.1) ((Option.getD z__39.1 (Option.none, [], [], [], (0 : Int), Bool.false, (0 : Int), (0 : Int), [], Bool.false)).2.2.2.2.2.1) ((Option.getD z__39.1 (Option.none, [], [], [], (0 : Int), Bool.false, (0 : Int), (0 : Int), [], Bool.false)).2.2.2.2.2.2.1) ((Option.getD z__39.1 (Option.none, [], [], [], (0 : Int), Bool.false, (0 : Int), (0 : Int), [], Bool.false)).2.2.2.2.2.2.2.1) ((Option.getD z__39.1 (Option.none, [], [], [], (0 : Int), Bool.false, (0 : Int), (0 : Int), [], Bool.false)).2.1) ((Option.getD z__39.1 (Option.none, [], [], [], (0 : Int), Bool.false, (0 : Int), (0 : Int), [], Bool.false)).2.2.1) ((Option.getD z__39.1 (Option.none, [], [], [], (0 : Int), Bool.false, (0 : Int), (0 : Int), [], Bool.false)).2.2.2.1) ((Option.getD z__39.1 (Option.none, [], [], [], (0 : Int), Bool.false, (0 : Int), (0 : Int), [], Bool.false)).2.2.2.2.2.2.2.2.1) with
  | some (Sum.inl <| ((t8_41, _), _)) => some (t8_41, ())
  | some (Sum.inr <| (_, (r0_42, (c1x0_42, c1x4_42, c1x5_42, c1x6_42, c1x7_42, _), r2_42, r3_42, r4_42, r5_42, _))) => (if DoneE.pre c1x0_42 r2_42 r3_42 r4_42 c1x4_42 c1x5_42 c1x6_42 c1x7_42 r5_42 = Bool.true then (letZ (DoneE.fn c1x0_42 r2_42 r3_42 r4_42 c1x4_42 c1x5_42 c1x6_42 c1x7_42 r5_42) fun z__42 =>
 (if z__42.2.1 = Bool.true then (if BoundsE.pre z__42.1.1 z__42.1.2.1 z__42.1.2.2.1 z__42.1.2.2.2.1 z__42.1.2.2.2.2.1 z__42.1.2.2.2.2.2.1 z__42.1.2.2.2.2.2.2.1 z__42.1.2.2.2.2.2.2.2.1 z__42.1.2.2.2.2.2.2.2.2.1 = Bool.true then (letZ (BoundsE.fn z__42.1.1 z__42.1.2.1 z__42.1.2.2.1 z__42.1.2.2.2.1 z__42.1.2.2.2.2.1 z__42.1.2.2.2.2.2.1 z__42.1.2.2.2.2.2.2.1 z__42.1.2.2.2.2.2.2.2.1 z__42.1.2.2.2.2.2.2.2.2.1) fun z__43 =>
 (if SameIntsH.pre z__43.2.1 r0_42 = Bool.true then some ((SameIntsH.fn z__43.2.1 r0_42).1, ())
 else none))
 else none)
 else some (Bool.false, ())))
 else none)
  | none => none))
 else none)))
 else none)
  | none => none)
 else none)
 else none))
 else none)
 else none)
 else none)
 (bothK (if (↑(List.length (degrees17.fn (shape.fn n0 pairs1 sizes2).1).1) : Int) = (↑(List.length (degrees17.fn (shape.fn n0 pairs1 sizes2).1).1) : Int) then (if Int.toNat (↑(List.length (degrees17.fn (shape.fn n0 pairs1 sizes2).1).1) : Int) * (8 : Nat) ≤ (140737488355328 : Nat) then (if (Shards.fn (shape.fn n0 pairs1 sizes2).2.1).1 = (Shards.fn (shape.fn n0 pairs1 sizes2).2.1).1 then (if (0 : Int) ≤ (Shards.fn (shape.fn n0 pairs1 sizes2).2.1).1 then (if Int.toNat (Shards.fn (shape.fn n0 pairs1 sizes2).2.1).1 * (1 : Nat) ≤ (140737488355328 : Nat) then (match F9 (more3) ((shape.fn n0 pairs1 sizes2).1) ((shape.fn n0 pairs1 sizes2).2.1) ((0 : Int)) ((Cores.fn (shape.fn n0 pairs1 sizes2).1).1) ((degrees17.fn (shape.fn n0 pairs1 sizes2).1).1) ((0 : Int)) (List.replicate (Int.toNat (↑(List.length (degrees17.fn (shape.fn n0 pairs1 sizes2).1).1) : Int)) (0 : Int)) (List.replicate (Int.toNat (Shards.fn (shape.fn n0 pairs1 sizes2).2.1).1) Bool.false) with
  | some (((g10_45, k11_45, _), (r0_45, r1_45, (c2x0_45, _), r3_45, r4_45, _))) => (if FromE.pre k11_45 r1_45 (c2x0_45, r3_45, r4_45) = Bool.true then (letZ (FromE.fn k11_45 r1_45 (c2x0_45, r3_45, r4_45)) fun z__45 =>
 (if Option.isNone z__45.1 = Bool.true then some (Bool.false, ())
 else (if num17.pre z__45.2.1 = Bool.true then (if ((num17.fn z__45.2.1).1 != (0 : Int)) = Bool.true then some (Bool.false, ())
 else (match F21 (g10_45) (k11_45) (r1_45) ((0 : Int)) (r0_45) ((Option.getD z__45.1 (Option.none, [], [], [], (0 : Int), Bool.false, (0 : Int), (0 : Int), [], Bool.false)).1) ((Option.getD z__45.1 (Option.none, [], [], [], (0 : Int), Bool.false, (0 : Int), (0 : Int), [], Bool.false)).2.2.2.2.1) ((Option.getD z__45.1 (Option.none, [], [], [], (0 : Int), Bool.false, (0 : Int), (0 : Int), [], Bool.false)).2.2.2.2.2.1) ((Option.getD z__45.1 (Option.none, [], [], [], (0 : Int), Bool.false, (0 : Int), (0 : Int), [], Bool.false)).2.2.2.2.2.2.1) ((Option.getD z__45.1 (Option.none, [], [], [], (0 : Int), Bool.false, (0 : Int), (0 : Int), [], Bool.false)).2.2.2.2.2.2.2.1) ((Option.getD z__45.1 (Option.none, [], [], [], (0 : Int), Bool.false, (0 : Int), (0 : Int), [], Bool.false)).2.1) ((Option.getD z__45.1 (Option.none, [], [], [], (0 : Int), Bool.false, (0 : Int), (0 : Int), [], Bool.false)).2.2.1) ((Option.getD z__45.1 (Option.none, [], [], [], (0 : Int), Bool.false, (0 : Int), (0 : Int), [], Bool.false)).2.2.2.1) ((Option.getD z__45.1 (Option.none, [], [], [], (0 : Int), Bool.false, (0 : Int), (0 : Int), [], Bool.false)).2.2.2.2.2.2.2.2.1) with
  | some (Sum.inl <| ((t8_47, _), _)) => some (t8_47, ())
  | some (Sum.inr <| (_, (r0_48, (c1x0_48, c1x4_48, c1x5_48, c1x6_48, c1x7_48, _), r2_48, r3_48, r4_48, r5_48, _))) => (if DoneE.pre c1x0_48 r2_48 r3_48 r4_48 c1x4_48 c1x5_48 c1x6_48 c1x7_48 r5_48 = Bool.true then (letZ (DoneE.fn c1x0_48 r2_48 r3_48 r4_48 c1x4_48 c1x5_48 c1x6_48 c1x7_48 r5_48) fun z__48 =>
 (if z__48.2.1 = Bool.true then (if BoundsE.pre z__48.1.1 z__48.1.2.1 z__48.1.2.2.1 z__48.1.2.2.2.1 z__48.1.2.2.2.2.1 z__48.1.2.2.2.2.2.1 z__48.1.2.2.2.2.2.2.1 z__48.1.2.2.2.2.2.2.2.1 z__48.1.2.2.2.2.2.2.2.2.1 = Bool.true then (letZ (BoundsE.fn z__48.1.1 z__48.1.2.1 z__48.1.2.2.1 z__48.1.2.2.2.1 z__48.1.2.2.2.2.1 z__48.1.2.2.2.2.2.1 z__48.1.2.2.2.2.2.2.1 z__48.1.2.2.2.2.2.2.2.1 z__48.1.2.2.2.2.2.2.2.2.1) fun z__49 =>
 (if SameIntsH.pre z__49.2.1 r0_48 = Bool.true then some ((SameIntsH.fn z__49.2.1 r0_48).1, ())
 else none))
 else none)
 else some (Bool.false, ())))
 else none)
  | none => none))
 else none)))
 else none)
  | none => none)
 else none)
 else none)
 else none)
 else none)
 else none)
 (if (Shards.fn (shape.fn n0 pairs1 sizes2).2.1).1 = (Shards.fn (shape.fn n0 pairs1 sizes2).2.1).1 then (if (0 : Int) ≤ (Shards.fn (shape.fn n0 pairs1 sizes2).2.1).1 then (if Int.toNat (Shards.fn (shape.fn n0 pairs1 sizes2).2.1).1 * (1 : Nat) ≤ (140737488355328 : Nat) then (if (↑(List.length (degrees17.fn (shape.fn n0 pairs1 sizes2).1).1) : Int) = (↑(List.length (degrees17.fn (shape.fn n0 pairs1 sizes2).1).1) : Int) then (if Int.toNat (↑(List.length (degrees17.fn (shape.fn n0 pairs1 sizes2).1).1) : Int) * (8 : Nat) ≤ (140737488355328 : Nat) then (match F9 (more3) ((shape.fn n0 pairs1 sizes2).1) ((shape.fn n0 pairs1 sizes2).2.1) ((0 : Int)) ((Cores.fn (shape.fn n0 pairs1 sizes2).1).1) ((degrees17.fn (shape.fn n0 pairs1 sizes2).1).1) ((0 : Int)) (List.replicate (Int.toNat (↑(List.length (degrees17.fn (shape.fn n0 pairs1 sizes2).1).1) : Int)) (0 : Int)) (List.replicate (Int.toNat (Shards.fn (shape.fn n0 pairs1 sizes2).2.1).1) Bool.false) with
  | some (((g10_51, k11_51, _), (r0_51, r1_51, (c2x0_51, _), r3_51, r4_51, _))) => (if FromE.pre k11_51 r1_51 (c2x0_51, r3_51, r4_51) = Bool.true then (letZ (FromE.fn k11_51 r1_51 (c2x0_51, r3_51, r4_51)) fun z__51 =>
 (if Option.isNone z__51.1 = Bool.true then some (Bool.false, ())
 else (if num17.pre z__51.2.1 = Bool.true then (if ((num17.fn z__51.2.1).1 != (0 : Int)) = Bool.true then some (Bool.false, ())
 else (match F21 (g10_51) (k11_51) (r1_51) ((0 : Int)) (r0_51) ((Option.getD z__51.1 (Option.none, [], [], [], (0 : Int), Bool.false, (0 : Int), (0 : Int), [], Bool.false)).1) ((Option.getD z__51.1 (Option.none, [], [], [], (0 : Int), Bool.false, (0 : Int), (0 : Int), [], Bool.false)).2.2.2.2.1) ((Option.getD z__51.1 (Option.none, [], [], [], (0 : Int), Bool.false, (0 : Int), (0 : Int), [], Bool.false)).2.2.2.2.2.1) ((Option.getD z__51.1 (Option.none, [], [], [], (0 : Int), Bool.false, (0 : Int), (0 : Int), [], Bool.false)).2.2.2.2.2.2.1) ((Option.getD z__51.1 (Option.none, [], [], [], (0 : Int), Bool.false, (0 : Int), (0 : Int), [], Bool.false)).2.2.2.2.2.2.2.1) ((Option.getD z__51.1 (Option.none, [], [], [], (0 : Int), Bool.false, (0 : Int), (0 : Int), [], Bool.false)).2.1) ((Option.getD z__51.1 (Option.none, [], [], [], (0 : Int), Bool.false, (0 : Int), (0 : Int), [], Bool.false)).2.2.1) ((Option.getD z__51.1 (Option.none, [], [], [], (0 : Int), Bool.false, (0 : Int), (0 : Int), [], Bool.false)).2.2.2.1) ((Option.getD z__51.1 (Option.none, [], [], [], (0 : Int), Bool.false, (0 : Int), (0 : Int), [], Bool.false)).2.2.2.2.2.2.2.2.1) with
  | some (Sum.inl <| ((t8_53, _), _)) => some (t8_53, ())
  | some (Sum.inr <| (_, (r0_54, (c1x0_54, c1x4_54, c1x5_54, c1x6_54, c1x7_54, _), r2_54, r3_54, r4_54, r5_54, _))) => (if DoneE.pre c1x0_54 r2_54 r3_54 r4_54 c1x4_54 c1x5_54 c1x6_54 c1x7_54 r5_54 = Bool.true then (letZ (DoneE.fn c1x0_54 r2_54 r3_54 r4_54 c1x4_54 c1x5_54 c1x6_54 c1x7_54 r5_54) fun z__54 =>
 (if z__54.2.1 = Bool.true then (if BoundsE.pre z__54.1.1 z__54.1.2.1 z__54.1.2.2.1 z__54.1.2.2.2.1 z__54.1.2.2.2.2.1 z__54.1.2.2.2.2.2.1 z__54.1.2.2.2.2.2.2.1 z__54.1.2.2.2.2.2.2.2.1 z__54.1.2.2.2.2.2.2.2.2.1 = Bool.true then (letZ (BoundsE.fn z__54.1.1 z__54.1.2.1 z__54.1.2.2.1 z__54.1.2.2.2.1 z__54.1.2.2.2.2.1 z__54.1.2.2.2.2.2.1 z__54.1.2.2.2.2.2.2.1 z__54.1.2.2.2.2.2.2.2.1 z__54.1.2.2.2.2.2.2.2.2.1) fun z__55 =>
 (if SameIntsH.pre z__55.2.1 r0_54 = Bool.true then some ((SameIntsH.fn z__55.2.1 r0_54).1, ())
 else none))
 else none)
 else some (Bool.false, ())))
 else none)
  | none => none))
 else none)))
 else none)
  | none => none)
 else none)
 else none)
 else none)
 else none)
 else none))))
 else none)
 (bothK (if (↑(List.length (degrees17.fn (shape.fn n0 pairs1 sizes2).1).1) : Int) = (↑(List.length (degrees17.fn (shape.fn n0 pairs1 sizes2).1).1) : Int) then (if Int.toNat (↑(List.length (degrees17.fn (shape.fn n0 pairs1 sizes2).1).1) : Int) * (8 : Nat) ≤ (140737488355328 : Nat) then (if Shards.pre (shape.fn n0 pairs1 sizes2).2.1 = Bool.true then (if (Shards.fn (shape.fn n0 pairs1 sizes2).2.1).1 = (Shards.fn (shape.fn n0 pairs1 sizes2).2.1).1 then (if (0 : Int) ≤ (Shards.fn (shape.fn n0 pairs1 sizes2).2.1).1 then (if Int.toNat (Shards.fn (shape.fn n0 pairs1 sizes2).2.1).1 * (1 : Nat) ≤ (140737488355328 : Nat) then (match F9 (more3) ((shape.fn n0 pairs1 sizes2).1) ((shape.fn n0 pairs1 sizes2).2.1) ((0 : Int)) ((Cores.fn (shape.fn n0 pairs1 sizes2).1).1) ((degrees17.fn (shape.fn n0 pairs1 sizes2).1).1) ((0 : Int)) (List.replicate (Int.toNat (↑(List.length (degrees17.fn (shape.fn n0 pairs1 sizes2).1).1) : Int)) (0 : Int)) (List.replicate (Int.toNat (Shards.fn (shape.fn n0 pairs1 sizes2).2.1).1) Bool.false) with
  | some (((g10_57, k11_57, _), (r0_57, r1_57, (c2x0_57, _), r3_57, r4_57, _))) => (if FromE.pre k11_57 r1_57 (c2x0_57, r3_57, r4_57) = Bool.true then (letZ (FromE.fn k11_57 r1_57 (c2x0_57, r3_57, r4_57)) fun z__57 =>
 (if Option.isNone z__57.1 = Bool.true then some (Bool.false, ())
 else (if num17.pre z__57.2.1 = Bool.true then (if ((num17.fn z__57.2.1).1 != (0 : Int)) = Bool.true then some (Bool.false, ())
 else (match F21 (g10_57) (k11_57) (r1_57) ((0 : Int)) (r0_57) ((Option.getD z__57.1 (Option.none, [], [], [], (0 : Int), Bool.false, (0 : Int), (0 : Int), [], Bool.false)).1) ((Option.getD z__57.1 (Option.none, [], [], [], (0 : Int), Bool.false, (0 : Int), (0 : Int), [], Bool.false)).2.2.2.2.1) ((Option.getD z__57.1 (Option.none, [], [], [], (0 : Int), Bool.false, (0 : Int), (0 : Int), [], Bool.false)).2.2.2.2.2.1) ((Option.getD z__57.1 (Option.none, [], [], [], (0 : Int), Bool.false, (0 : Int), (0 : Int), [], Bool.false)).2.2.2.2.2.2.1) ((Option.getD z__57.1 (Option.none, [], [], [], (0 : Int), Bool.false, (0 : Int), (0 : Int), [], Bool.false)).2.2.2.2.2.2.2.1) ((Option.getD z__57.1 (Option.none, [], [], [], (0 : Int), Bool.false, (0 : Int), (0 : Int), [], Bool.false)).2.1) ((Option.getD z__57.1 (Option.none, [], [], [], (0 : Int), Bool.false, (0 : Int), (0 : Int), [], Bool.false)).2.2.1) ((Option.getD z__57.1 (Option.none, [], [], [], (0 : Int), Bool.false, (0 : Int), (0 : Int), [], Bool.false)).2.2.2.1) ((Option.getD z__57.1 (Option.none, [], [], [], (0 : Int), Bool.false, (0 : Int), (0 : Int), [], Bool.false)).2.2.2.2.2.2.2.2.1) with
  | some (Sum.inl <| ((t8_59, _), _)) => some (t8_59, ())
  | some (Sum.inr <| (_, (r0_60, (c1x0_60, c1x4_60, c1x5_60, c1x6_60, c1x7_60, _), r2_60, r3_60, r4_60, r5_60, _))) => (if DoneE.pre c1x0_60 r2_60 r3_60 r4_60 c1x4_60 c1x5_60 c1x6_60 c1x7_60 r5_60 = Bool.true then (letZ (DoneE.fn c1x0_60 r2_60 r3_60 r4_60 c1x4_60 c1x5_60 c1x6_60 c1x7_60 r5_60) fun z__60 =>
 (if z__60.2.1 = Bool.true then (if BoundsE.pre z__60.1.1 z__60.1.2.1 z__60.1.2.2.1 z__60.1.2.2.2.1 z__60.1.2.2.2.2.1 z__60.1.2.2.2.2.2.1 z__60.1.2.2.2.2.2.2.1 z__60.1.2.2.2.2.2.2.2.1 z__60.1.2.2.2.2.2.2.2.2.1 = Bool.true then (letZ (BoundsE.fn z__60.1.1 z__60.1.2.1 z__60.1.2.2.1 z__60.1.2.2.2.1 z__60.1.2.2.2.2.1 z__60.1.2.2.2.2.2.1 z__60.1.2.2.2.2.2.2.1 z__60.1.2.2.2.2.2.2.2.1 z__60.1.2.2.2.2.2.2.2.2.1) fun z__61 =>
 (if SameIntsH.pre z__61.2.1 r0_60 = Bool.true then some ((SameIntsH.fn z__61.2.1 r0_60).1, ())
 else none))
 else none)
 else some (Bool.false, ())))
 else none)
  | none => none))
 else none)))
 else none)
  | none => none)
 else none)
 else none)
 else none)
 else none)
 else none)
 else none)
 (if Shards.pre (shape.fn n0 pairs1 sizes2).2.1 = Bool.true then (bothK (if (↑(List.length (degrees17.fn (shape.fn n0 pairs1 sizes2).1).1) : Int) = (↑(List.length (degrees17.fn (shape.fn n0 pairs1 sizes2).1).1) : Int) then (if Int.toNat (↑(List.length (degrees17.fn (shape.fn n0 pairs1 sizes2).1).1) : Int) * (8 : Nat) ≤ (140737488355328 : Nat) then (if (Shards.fn (shape.fn n0 pairs1 sizes2).2.1).1 = (Shards.fn (shape.fn n0 pairs1 sizes2).2.1).1 then (if (0 : Int) ≤ (Shards.fn (shape.fn n0 pairs1 sizes2).2.1).1 then (if Int.toNat (Shards.fn (shape.fn n0 pairs1 sizes2).2.1).1 * (1 : Nat) ≤ (140737488355328 : Nat) then (match F9 (more3) ((shape.fn n0 pairs1 sizes2).1) ((shape.fn n0 pairs1 sizes2).2.1) ((0 : Int)) ((Cores.fn (shape.fn n0 pairs1 sizes2).1).1) ((degrees17.fn (shape.fn n0 pairs1 sizes2).1).1) ((0 : Int)) (List.replicate (Int.toNat (↑(List.length (degrees17.fn (shape.fn n0 pairs1 sizes2).1).1) : Int)) (0 : Int)) (List.replicate (Int.toNat (Shards.fn (shape.fn n0 pairs1 sizes2).2.1).1) Bool.false) with
  | some (((g10_63, k11_63, _), (r0_63, r1_63, (c2x0_63, _), r3_63, r4_63, _))) => (if FromE.pre k11_63 r1_63 (c2x0_63, r3_63, r4_63) = Bool.true then (letZ (FromE.fn k11_63 r1_63 (c2x0_63, r3_63, r4_63)) fun z__63 =>
 (if Option.isNone z__63.1 = Bool.true then some (Bool.false, ())
 else (if num17.pre z__63.2.1 = Bool.true then (if ((num17.fn z__63.2.1).1 != (0 : Int)) = Bool.true then some (Bool.false, ())
 else (match F21 (g10_63) (k11_63) (r1_63) ((0 : Int)) (r0_63) ((Option.getD z__63.1 (Option.none, [], [], [], (0 : Int), Bool.false, (0 : Int), (0 : Int), [], Bool.false)).1) ((Option.getD z__63.1 (Option.none, [], [], [], (0 : Int), Bool.false, (0 : Int), (0 : Int), [], Bool.false)).2.2.2.2.1) ((Option.getD z__63.1 (Option.none, [], [], [], (0 : Int), Bool.false, (0 : Int), (0 : Int), [], Bool.false)).2.2.2.2.2.1) ((Option.getD z__63.1 (Option.none, [], [], [], (0 : Int), Bool.false, (0 : Int), (0 : Int), [], Bool.false)).2.2.2.2.2.2.1) ((Option.getD z__63.1 (Option.none, [], [], [], (0 : Int), Bool.false, (0 : Int), (0 : Int), [], Bool.false)).2.2.2.2.2.2.2.1) ((Option.getD z__63.1 (Option.none, [], [], [], (0 : Int), Bool.false, (0 : Int), (0 : Int), [], Bool.false)).2.1) ((Option.getD z__63.1 (Option.none, [], [], [], (0 : Int), Bool.false, (0 : Int), (0 : Int), [], Bool.false)).2.2.1) ((Option.getD z__63.1 (Option.none, [], [], [], (0 : Int), Bool.false, (0 : Int), (0 : Int), [], Bool.false)).2.2.2.1) ((Option.getD z__63.1 (Option.none, [], [], [], (0 : Int), Bool.false, (0 : Int), (0 : Int), [], Bool.false)).2.2.2.2.2.2.2.2.1) with
  | some (Sum.inl <| ((t8_65, _), _)) => some (t8_65, ())
  | some (Sum.inr <| (_, (r0_66, (c1x0_66, c1x4_66, c1x5_66, c1x6_66, c1x7_66, _), r2_66, r3_66, r4_66, r5_66, _))) => (if DoneE.pre c1x0_66 r2_66 r3_66 r4_66 c1x4_66 c1x5_66 c1x6_66 c1x7_66 r5_66 = Bool.true then (letZ (DoneE.fn c1x0_66 r2_66 r3_66 r4_66 c1x4_66 c1x5_66 c1x6_66 c1x7_66 r5_66) fun z__66 =>
 (if z__66.2.1 = Bool.true then (if BoundsE.pre z__66.1.1 z__66.1.2.1 z__66.1.2.2.1 z__66.1.2.2.2.1 z__66.1.2.2.2.2.1 z__66.1.2.2.2.2.2.1 z__66.1.2.2.2.2.2.2.1 z__66.1.2.2.2.2.2.2.2.1 z__66.1.2.2.2.2.2.2.2.2.1 = Bool.true then (letZ (BoundsE.fn z__66.1.1 z__66.1.2.1 z__66.1.2.2.1 z__66.1.2.2.2.1 z__66.1.2.2.2.2.1 z__66.1.2.2.2.2.2.1 z__66.1.2.2.2.2.2.2.1 z__66.1.2.2.2.2.2.2.2.1 z__66.1.2.2.2.2.2.2.2.2.1) fun z__67 =>
 (if SameIntsH.pre z__67.2.1 r0_66 = Bool.true then some ((SameIntsH.fn z__67.2.1 r0_66).1, ())
 else none))
 else none)
 else some (Bool.false, ())))
 else none)
  | none => none))
 else none)))
 else none)
  | none => none)
 else none)
 else none)
 else none)
 else none)
 else none)
 (if (Shards.fn (shape.fn n0 pairs1 sizes2).2.1).1 = (Shards.fn (shape.fn n0 pairs1 sizes2).2.1).1 then (if (0 : Int) ≤ (Shards.fn (shape.fn n0 pairs1 sizes2).2.1).1 then (if Int.toNat (Shards.fn (shape.fn n0 pairs1 sizes2).2.1).1 * (1 : Nat) ≤ (140737488355328 : Nat) then (if (↑(List.length (degrees17.fn (shape.fn n0 pairs1 sizes2).1).1) : Int) = (↑(List.length (degrees17.fn (shape.fn n0 pairs1 sizes2).1).1) : Int) then (if Int.toNat (↑(List.length (degrees17.fn (shape.fn n0 pairs1 sizes2).1).1) : Int) * (8 : Nat) ≤ (140737488355328 : Nat) then (match F9 (more3) ((shape.fn n0 pairs1 sizes2).1) ((shape.fn n0 pairs1 sizes2).2.1) ((0 : Int)) ((Cores.fn (shape.fn n0 pairs1 sizes2).1).1) ((degrees17.fn (shape.fn n0 pairs1 sizes2).1).1) ((0 : Int)) (List.replicate (Int.toNat (↑(List.length (degrees17.fn (shape.fn n0 pairs1 sizes2).1).1) : Int)) (0 : Int)) (List.replicate (Int.toNat (Shards.fn (shape.fn n0 pairs1 sizes2).2.1).1) Bool.false) with
  | some (((g10_69, k11_69, _), (r0_69, r1_69, (c2x0_69, _), r3_69, r4_69, _))) => (if FromE.pre k11_69 r1_69 (c2x0_69, r3_69, r4_69) = Bool.true then (letZ (FromE.fn k11_69 r1_69 (c2x0_69, r3_69, r4_69)) fun z__69 =>
 (if Option.isNone z__69.1 = Bool.true then some (Bool.false, ())
 else (if num17.pre z__69.2.1 = Bool.true then (if ((num17.fn z__69.2.1).1 != (0 : Int)) = Bool.true then some (Bool.false, ())
 else (match F21 (g10_69) (k11_69) (r1_69) ((0 : Int)) (r0_69) ((Option.getD z__69.1 (Option.none, [], [], [], (0 : Int), Bool.false, (0 : Int), (0 : Int), [], Bool.false)).1) ((Option.getD z__69.1 (Option.none, [], [], [], (0 : Int), Bool.false, (0 : Int), (0 : Int), [], Bool.false)).2.2.2.2.1) ((Option.getD z__69.1 (Option.none, [], [], [], (0 : Int), Bool.false, (0 : Int), (0 : Int), [], Bool.false)).2.2.2.2.2.1) ((Option.getD z__69.1 (Option.none, [], [], [], (0 : Int), Bool.false, (0 : Int), (0 : Int), [], Bool.false)).2.2.2.2.2.2.1) ((Option.getD z__69.1 (Option.none, [], [], [], (0 : Int), Bool.false, (0 : Int), (0 : Int), [], Bool.false)).2.2.2.2.2.2.2.1) ((Option.getD z__69.1 (Option.none, [], [], [], (0 : Int), Bool.false, (0 : Int), (0 : Int), [], Bool.false)).2.1) ((Option.getD z__69.1 (Option.none, [], [], [], (0 : Int), Bool.false, (0 : Int), (0 : Int), [], Bool.false)).2.2.1) ((Option.getD z__69.1 (Option.none, [], [], [], (0 : Int), Bool.false, (0 : Int), (0 : Int), [], Bool.false)).2.2.2.1) ((Option.getD z__69.1 (Option.none, [], [], [], (0 : Int), Bool.false, (0 : Int), (0 : Int), [], Bool.false)).2.2.2.2.2.2.2.2.1) with
  | some (Sum.inl <| ((t8_71, _), _)) => some (t8_71, ())
  | some (Sum.inr <| (_, (r0_72, (c1x0_72, c1x4_72, c1x5_72, c1x6_72, c1x7_72, _), r2_72, r3_72, r4_72, r5_72, _))) => (if DoneE.pre c1x0_72 r2_72 r3_72 r4_72 c1x4_72 c1x5_72 c1x6_72 c1x7_72 r5_72 = Bool.true then (letZ (DoneE.fn c1x0_72 r2_72 r3_72 r4_72 c1x4_72 c1x5_72 c1x6_72 c1x7_72 r5_72) fun z__72 =>
 (if z__72.2.1 = Bool.true then (if BoundsE.pre z__72.1.1 z__72.1.2.1 z__72.1.2.2.1 z__72.1.2.2.2.1 z__72.1.2.2.2.2.1 z__72.1.2.2.2.2.2.1 z__72.1.2.2.2.2.2.2.1 z__72.1.2.2.2.2.2.2.2.1 z__72.1.2.2.2.2.2.2.2.2.1 = Bool.true then (letZ (BoundsE.fn z__72.1.1 z__72.1.2.1 z__72.1.2.2.1 z__72.1.2.2.2.1 z__72.1.2.2.2.2.1 z__72.1.2.2.2.2.2.1 z__72.1.2.2.2.2.2.2.1 z__72.1.2.2.2.2.2.2.2.1 z__72.1.2.2.2.2.2.2.2.2.1) fun z__73 =>
 (if SameIntsH.pre z__73.2.1 r0_72 = Bool.true then some ((SameIntsH.fn z__73.2.1 r0_72).1, ())
 else none))
 else none)
 else some (Bool.false, ())))
 else none)
  | none => none))
 else none)))
 else none)
  | none => none)
 else none)
 else none)
 else none)
 else none)
 else none))
 else none))))
 else none)
 else none))
 else some (Bool.false, ()))
 else some (Bool.false, ()))
 else none)
 else none)
noncomputable def run (d : Ds (List.map PM.ty ps)) : Option (Ds (muts ps ++ List.map PM.ty rs)) := match d with
  | (n0, pairs1, sizes2, more3, _) => run' n0 pairs1 sizes2 more3
theorem run_is : ∀ d, runF env 136 code [8] ps rs d = run d := fun d => by kernel_rfl
theorem loops : LoopsOk env code := loopsOk_of (l := [[true, true, true, true, true, true, true, false, true, false, false], [true, true, true, true, true, true, true, true, true, true, false, true, false, false]]) (by kernel_rfl) (fun p hp => by
  simp only [List.mem_cons, List.not_mem_nil, or_false] at hp
  rcases hp with rfl | rfl
  · exact loopOk_lpK (L := L9) (x := sub [true, true, true, true, true, true, true, false, true, false, false] code) (by kernel_rfl) (by simp [L9]) round9 ends9
  · exact loopOk_lpK (L := L21) (x := sub [true, true, true, true, true, true, true, true, true, true, false, true, false, false] code) (by kernel_rfl) (by simp [L21]) round21 ends21
  )
noncomputable def pre (n0 : Int) (pairs1 : (List (Int × Int))) (sizes2 : (List Int)) (more3 : (List Int)) : Bool := (run' n0 pairs1 sizes2 more3).isSome
noncomputable def fn (n0 : Int) (pairs1 : (List (Int × Int))) (sizes2 : (List Int)) (more3 : (List Int)) : D := match run' n0 pairs1 sizes2 more3 with
  | some x => x
  | none => default
noncomputable def sig : Sig := ⟨ps, rs, fun d => match d with
  | (n0, pairs1, sizes2, more3, _) => pre n0 pairs1 sizes2 more3, fun d => match d with
  | (n0, pairs1, sizes2, more3, _) => fn n0 pairs1 sizes2 more3, false⟩
theorem run_fn (n0 : Int) (pairs1 : (List (Int × Int))) (sizes2 : (List Int)) (more3 : (List Int)) (h : pre n0 pairs1 sizes2 more3 = true) : run' n0 pairs1 sizes2 more3 = some (fn n0 pairs1 sizes2 more3) := by
  unfold pre at h
  unfold fn
  cases e : run' n0 pairs1 sizes2 more3 with
  | some x => rfl
  | none => rw [e] at h; cases h
theorem is_fn (n0 : Int) (pairs1 : (List (Int × Int))) (sizes2 : (List Int)) (more3 : (List Int)) {x : D} (h : run' n0 pairs1 sizes2 more3 = some x) : pre n0 pairs1 sizes2 more3 = true ∧ fn n0 pairs1 sizes2 more3 = x := by
  unfold pre fn
  rw [h]
  exact ⟨rfl, rfl⟩
theorem sound {ρ : Obs} (hE : EnvOk Go.Proofs.Tryd.prog ρ env) : Sound Go.Proofs.Tryd.prog ρ 8 sig := sound_of (fn := Go.Proofs.Tryd.f8) (c := code) (res := [8]) hE (by kernel_rfl) (by kernel_rfl) (by kernel_rfl) (by kernel_rfl) (by kernel_rfl) loops rfl (show 4 ≤ 136 by decide) (fun d hd => (run_is d).trans (by
  obtain ⟨n0, pairs1, sizes2, more3, _⟩ := d
  exact run_fn n0 pairs1 sizes2 more3 hd))
theorem enters : Enters Go.Proofs.Tryd.prog 8 := enters_of (fn := Go.Proofs.Tryd.f8) (by kernel_rfl) (by kernel_rfl) (by kernel_rfl)
theorem ok {ρ : Obs} (h : ∀ p ∈ ([(9, first17.sig), (13, shape.sig), (37, Cores.sig), (15, degrees17.sig), (22, Shards.sig), (32, Shard.sig), (34, FromE.sig), (16, num17.sig), (17, sum17.sig), (18, DoneE.sig), (20, goes.sig), (21, SameIntsH.sig), (25, BoundsE.sig)] : List (FuncId × Sig)), Enters Go.Proofs.Tryd.prog p.1 ∧ Sound Go.Proofs.Tryd.prog ρ p.1 p.2) : Enters Go.Proofs.Tryd.prog 8 ∧ Sound Go.Proofs.Tryd.prog ρ 8 sig := ⟨enters, sound (envOk_ofK tabDOk h)⟩
theorem okR : Enters Go.Proofs.Tryd.prog 8 ∧ Sound Go.Proofs.Tryd.prog rho 8 sig := ok (fun p hp => by
  simp only [List.mem_cons, List.not_mem_nil, or_false] at hp
  rcases hp with rfl | rfl | rfl | rfl | rfl | rfl | rfl | rfl | rfl | rfl | rfl | rfl | rfl
  · exact first17.okR
  · exact shape.okR
  · exact Cores.okR
  · exact degrees17.okR
  · exact Shards.okR
  · exact Shard.okR
  · exact FromE.okR
  · exact num17.okR
  · exact sum17.okR
  · exact DoneE.okR
  · exact goes.okR
  · exact SameIntsH.okR
  · exact BoundsE.okR)
end EstBounds
end Go.Proofs.YthbojpaghbbnnaaDoor.Z
namespace Go.Proofs.YthbojpaghbbnnaaDoor.Z
open Go Go.RowKit
set_option linter.unusedVariables false
set_option linter.unusedSimpArgs false
theorem wrapU {x : Nat} (h : x < 18446744073709551616) : IntKind.wrap .u64 (x : Int) = (x : Int) := by
  unfold IntKind.wrap
  simp [IntKind.bits, IntKind.signed]
  omega
theorem bz_and {a b : Nat} (ha : a < 18446744073709551616) (hb : b < 18446744073709551616) : bitsZ .and .u64 (a : Int) (b : Int) = ((a &&& b : Nat) : Int) := by
  have h : a &&& b < 18446744073709551616 := Nat.lt_of_le_of_lt Nat.and_le_left ha
  rw [bitsZ_eq]
  show IntKind.wrap .u64 (((BitVec.ofInt 64 (a : Int) &&& BitVec.ofInt 64 (b : Int)).toNat : Nat) : Int) = _
  simp only [BitVec.ofInt_natCast, BitVec.toNat_and, BitVec.toNat_ofNat]
  rw [Nat.mod_eq_of_lt (show a < 2 ^ 64 from ha), Nat.mod_eq_of_lt (show b < 2 ^ 64 from hb), wrapU h]
theorem bz_or {a b : Nat} (ha : a < 18446744073709551616) (hb : b < 18446744073709551616) : bitsZ .or .u64 (a : Int) (b : Int) = ((a ||| b : Nat) : Int) := by
  have h : a ||| b < 18446744073709551616 := Nat.or_lt_two_pow (n := 64) ha hb
  rw [bitsZ_eq]
  show IntKind.wrap .u64 (((BitVec.ofInt 64 (a : Int) ||| BitVec.ofInt 64 (b : Int)).toNat : Nat) : Int) = _
  simp only [BitVec.ofInt_natCast, BitVec.toNat_or, BitVec.toNat_ofNat]
  rw [Nat.mod_eq_of_lt (show a < 2 ^ 64 from ha), Nat.mod_eq_of_lt (show b < 2 ^ 64 from hb), wrapU h]
theorem bz_andNot {a b : Nat} (ha : a < 18446744073709551616) (hb : b < 18446744073709551616) : bitsZ .andNot .u64 (a : Int) (b : Int) = ((a &&& (18446744073709551615 - b) : Nat) : Int) := by
  have h : a &&& (18446744073709551615 - b) < 18446744073709551616 := Nat.lt_of_le_of_lt Nat.and_le_left ha
  rw [bitsZ_eq]
  show IntKind.wrap .u64 (((BitVec.ofInt 64 (a : Int) &&& ~~~(BitVec.ofInt 64 (b : Int))).toNat : Nat) : Int) = _
  simp only [BitVec.ofInt_natCast, BitVec.toNat_and, BitVec.toNat_not, BitVec.toNat_ofNat]
  rw [Nat.mod_eq_of_lt (show a < 2 ^ 64 from ha), Nat.mod_eq_of_lt (show b < 2 ^ 64 from hb), show 2 ^ 64 - 1 - b = 18446744073709551615 - b by rfl, wrapU h]
theorem pow_lt {k : Nat} (hk : k < 64) : 2 ^ k < 18446744073709551616 := by
  have : 2 ^ k < 2 ^ 64 := Nat.pow_lt_pow_right (by decide) hk
  simpa using this
theorem one_shl {k : Nat} (hk : k < 64) : IntKind.wrap .u64 ((1 : Int) * (2 : Int) ^ (min k 64 : Nat)) = ((2 ^ k : Nat) : Int) := by
  rw [Nat.min_eq_left (by omega), Int.one_mul]
  have := wrapU (pow_lt hk)
  push_cast at this ⊢
  exact this
def W64 (dr : List Int) : Prop := ∀ i, 0 ≤ dr.getD i 0 ∧ dr.getD i 0 < 18446744073709551616
def bitAt (dr : List Int) (s : Nat) : Bool := (dr.getD (s / 64) 0).toNat.testBit (s % 64)
def setBit (dr : List Int) (s : Nat) : List Int := dr.set (s / 64) (((dr.getD (s / 64) 0).toNat ||| 2 ^ (s % 64) : Nat) : Int)
def clrBit (dr : List Int) (s : Nat) : List Int := dr.set (s / 64) (((dr.getD (s / 64) 0).toNat &&& (18446744073709551615 - 2 ^ (s % 64)) : Nat) : Int)
theorem setBit_len (dr : List Int) (s : Nat) : (setBit dr s).length = dr.length := List.length_set
theorem clrBit_len (dr : List Int) (s : Nat) : (clrBit dr s).length = dr.length := List.length_set
theorem W64.nat {dr : List Int} (h : W64 dr) (i : Nat) : ∃ x : Nat, dr.getD i 0 = (x : Int) ∧ x < 18446744073709551616 := by
  obtain ⟨h1, h2⟩ := h i
  exact ⟨(dr.getD i 0).toNat, by omega, by omega⟩
theorem W64.set {dr : List Int} (h : W64 dr) (i : Nat) {x : Nat} (hx : x < 18446744073709551616) : W64 (dr.set i (x : Int)) := fun j => by
  rw [getD_setP]
  split
  · omega
  · exact h j
theorem W64.setBit {dr : List Int} (h : W64 dr) (s : Nat) : W64 (setBit dr s) := by
  refine h.set _ (Nat.or_lt_two_pow (n := 64) ?_ (pow_lt (by omega)))
  have := h (s / 64)
  show _ < 18446744073709551616
  omega
theorem W64.clrBit {dr : List Int} (h : W64 dr) (s : Nat) : W64 (clrBit dr s) := by
  refine h.set _ (Nat.lt_of_le_of_lt Nat.and_le_left ?_)
  have := h (s / 64)
  omega
theorem bit_out {dr : List Int} {s : Nat} (h : 64 * dr.length ≤ s) : bitAt dr s = false := by
  unfold bitAt
  rw [List.getD_eq_getElem?_getD, List.getElem?_eq_none (by omega)]
  simp
theorem bit_set {dr : List Int} {s t : Nat} (hs : s < 64 * dr.length) : bitAt (setBit dr s) t = (bitAt dr t || decide (t = s)) := by
  unfold bitAt setBit
  rw [getD_setP]
  by_cases h : s / 64 = t / 64
  · rw [if_pos ⟨h, by omega⟩, Int.toNat_natCast, Nat.testBit_or, Nat.testBit_two_pow, h]
    congr 1
    exact decide_eq_decide.2 (by omega)
  · rw [if_neg (fun k => h k.1)]
    have : ¬ t = s := by omega
    simp [this]
theorem bit_clr {dr : List Int} {s t : Nat} (hs : s < 64 * dr.length) : bitAt (clrBit dr s) t = (bitAt dr t && !decide (t = s)) := by
  unfold bitAt clrBit
  rw [getD_setP]
  by_cases h : s / 64 = t / 64
  · rw [if_pos ⟨h, by omega⟩, Int.toNat_natCast, Nat.testBit_and, h]
    rw [show 18446744073709551615 - 2 ^ (s % 64) = 2 ^ 64 - (2 ^ (s % 64) + 1) by omega, Nat.testBit_two_pow_sub_succ (pow_lt (by omega)), Nat.testBit_two_pow]
    have h3 : t % 64 < 64 := by omega
    simp only [h3, decide_true, Bool.true_and]
    congr 2
    exact decide_eq_decide.2 (by omega)
  · rw [if_neg (fun k => h k.1)]
    have : ¬ t = s := by omega
    simp [this]
/-- The least flag from a place on. -/
def leastN (dr : List Int) (fr : Nat) : Int := match (List.range (64 * dr.length)).find? (fun s => decide (fr ≤ s) && bitAt dr s) with
  | some s => (s : Int)
  | none => -1
structure IsLeast (dr : List Int) (fr : Nat) (s : Nat) : Prop where
  ge : fr ≤ s
  bit : bitAt dr s = true
  no : ∀ t, fr ≤ t → t < s → bitAt dr t = false
theorem IsLeast.lt {dr : List Int} {fr s : Nat} (h : IsLeast dr fr s) : s < 64 * dr.length := by
  rcases Nat.lt_or_ge s (64 * dr.length) with k | k
  · exact k
  · have := bit_out k
    rw [h.bit] at this
    cases this
theorem leastN_none {dr : List Int} {fr : Nat} (h : ∀ s, fr ≤ s → bitAt dr s = false) : leastN dr fr = -1 := by
  unfold leastN
  rw [List.find?_eq_none.2 (fun s _ => by
    by_cases k : fr ≤ s
    · simp [h s k]
    · simp [k])]
theorem leastN_some {dr : List Int} {fr s : Nat} (h : IsLeast dr fr s) : leastN dr fr = (s : Int) := by
  unfold leastN
  have : (List.range (64 * dr.length)).find? (fun s => decide (fr ≤ s) && bitAt dr s) = some s := by
    rw [List.find?_range_eq_some]
    refine ⟨by simp [h.ge, h.bit], by simpa using h.lt, fun t ht => ?_⟩
    by_cases k : fr ≤ t
    · simp [h.no t k ht]
    · simp [k]
  rw [this]
theorem least_cases (dr : List Int) (fr : Nat) : (leastN dr fr = -1 ∧ ∀ s, fr ≤ s → bitAt dr s = false) ∨ ∃ s : Nat, leastN dr fr = (s : Int) ∧ IsLeast dr fr s := by
  by_cases h : ∃ s, fr ≤ s ∧ bitAt dr s = true
  · right
    obtain ⟨s, h1, h2⟩ := h
    have key : ∀ n : Nat, (∃ t, t < n ∧ fr ≤ t ∧ bitAt dr t = true) → ∃ s, IsLeast dr fr s := by
      intro n
      induction n with
      | zero => rintro ⟨t, h, _⟩; omega
      | succ n ih =>
        rintro ⟨t, h1, h2, h3⟩
        by_cases hn : ∃ t, t < n ∧ fr ≤ t ∧ bitAt dr t = true
        · exact ih hn
        · have : t = n := by
            rcases Nat.lt_or_ge t n with k | k
            · exact absurd ⟨t, k, h2, h3⟩ hn
            · omega
          subst this
          exact ⟨t, h2, h3, fun u hu hl => by
            cases hb : bitAt dr u with
            | false => rfl
            | true => exact absurd ⟨u, hl, hu, hb⟩ hn⟩
    obtain ⟨s', hs'⟩ := key (s + 1) ⟨s, by omega, h1, h2⟩
    exact ⟨s', leastN_some hs', hs'⟩
  · left
    have : ∀ s, fr ≤ s → bitAt dr s = false := fun s hs => by
      cases hb : bitAt dr s with
      | false => rfl
      | true => exact absurd ⟨s, hs, hb⟩ h
    exact ⟨leastN_none this, this⟩
theorem ctz_bits {x : Nat} (h0 : x ≠ 0) (hx : x < 18446744073709551616) : Lib.ctz 64 x < 64 ∧ x.testBit (Lib.ctz 64 x) = true ∧ ∀ j, j < Lib.ctz 64 x → x.testBit j = false := by
  have e : Lib.ctz 64 x = Lib.ctzFrom 64 x := by unfold Lib.ctz; rw [if_neg h0]
  rw [e]
  obtain ⟨m, h1, h2⟩ := Lib.ctzFrom_spec 64 x (by omega) hx
  obtain ⟨c, hc⟩ : ∃ c, c = Lib.ctzFrom 64 x := ⟨_, rfl⟩
  rw [← hc] at h1 h2 ⊢
  refine ⟨h2, ?_, fun j hj => ?_⟩
  · rw [h1]
    rw [Nat.mul_comm, Nat.testBit_mul_two_pow]
    simp
  · rw [h1]
    rw [Nat.mul_comm, Nat.testBit_mul_two_pow]
    have : ¬ j ≥ c := by omega
    simp [this]
end Go.Proofs.YthbojpaghbbnnaaDoor.Z
namespace Go.Proofs.YthbojpaghbbnnaaDoor.Z
open Go Go.RowKit
set_option linter.unusedVariables false
set_option linter.unusedSimpArgs false
theorem mask_all : ∀ k, k < 64 → IntKind.wrap .u64 ((18446744073709551615 : Int) * (2 : Int) ^ (min k 64 : Nat)) = ((18446744073709551616 - 2 ^ k : Nat) : Int) := by decide +kernel
theorem mask_bit : ∀ k, k < 64 → ∀ i, i < 64 → (18446744073709551616 - 2 ^ k : Nat).testBit i = decide (k ≤ i) := by decide +kernel
theorem tdiv64 (s : Nat) (h : s < 4611686018427387904) : IntKind.wrap .i64 (Int.tdiv (s : Int) 64) = ((s / 64 : Nat) : Int) := by
  have e : Int.tdiv (s : Int) 64 = ((s / 64 : Nat) : Int) := rfl
  rw [e]
  exact wr (by omega) (by omega)
theorem tmod64 (s : Nat) : Int.tmod (s : Int) 64 = ((s % 64 : Nat) : Int) := rfl
/-- Words of flags of no more than so many shards. -/
structure Wds (dr : List Int) : Prop where
  w : W64 dr
  len : dr.length ≤ 65536
theorem bitAt_word {dr : List Int} {x j s : Nat} (hx : dr.getD j 0 = (x : Int)) (hs : s / 64 = j) : bitAt dr s = x.testBit (s % 64) := by
  unfold bitAt
  rw [hs, hx, Int.toNat_natCast]
theorem leastE.is {dr : List Int} (hW : Wds dr) (l : Option (List Int)) (dg bd : List Int) (p : Int) (u : Bool) (q c : Int) (k : List Int) {fr : Nat} (hf : fr < 4294967296) :
    leastE.pre l dg bd dr p u q c k (fr : Int) = true ∧ leastE.fn l dg bd dr p u q c k (fr : Int) = ((l, dg, bd, dr, p, u, q, c, k, false), leastN dr fr, ()) := by
  have hlen := hW.len
  have key := leastE.F2_inv (from1 := (fr : Int)) (c0x0 := l) (c0x4 := p) (c0x5 := u) (c0x6 := q) (c0x7 := c) (r1 := dg) (r2 := bd) (r3 := dr) (r4 := k)
    (fun i => ∃ j : Nat, i = (j : Int) ∧ fr / 64 ≤ j ∧ (j ≤ dr.length ∨ j = fr / 64) ∧ ∀ s, fr ≤ s → s < 64 * j → bitAt dr s = false) (fun i => dr.length - i.toNat)
    (fun z => z = Sum.inl ((leastN dr fr, ()), ((l, p, u, q, c, ()), dg, bd, dr, k, ())) ∨ (z = Sum.inr ((), ((l, p, u, q, c, ()), dg, bd, dr, k, ())) ∧ leastN dr fr = -1))
    (fun i hI => by
      obtain ⟨j, rfl, hj, hjl, hn⟩ := hI
      unfold leastE.R2
      refine led_dif (fun q1 => ?_) (fun q1 => led_x (.inr ⟨rfl, ?_⟩))
      · have hjl : j < dr.length := by omega
        obtain ⟨x, hx, hx2⟩ := hW.w.nat j
        have a0 : (0 : Int) ≤ (j : Int) := by omega
        have hw1 : IntKind.wrap .i64 ((j : Int) + 1) = (j : Int) + 1 := wr (by omega) (by omega)
        have hw2 : IntKind.wrap .i64 ((64 : Int) * (j : Int)) = (64 : Int) * (j : Int) := wr (by omega) (by omega)
        have hm0 : (0 : Int) ≤ ((fr % 64 : Nat) : Int) := by omega
        refine led_need a0 (led_need q1 ?_)
        rw [tdiv64 fr (by omega), tmod64, Int.toNat_natCast, Int.toNat_natCast, hx]
        by_cases hjf : j = fr / 64
        · have e1 : ((j : Int) == ((fr / 64 : Nat) : Int)) = true := by rw [hjf]; simp
          refine led_yes e1 (led_need hm0 ?_)
          rw [mask_all (fr % 64) (Nat.mod_lt _ (by decide))]
          have hml : (18446744073709551616 - 2 ^ (fr % 64) : Nat) < 18446744073709551616 := by
            have := Nat.two_pow_pos (fr % 64); omega
          rw [bz_and hx2 hml]
          generalize hy : x &&& (18446744073709551616 - 2 ^ (fr % 64)) = y
          have hyb : ∀ i, i < 64 → y.testBit i = (x.testBit i && decide (fr % 64 ≤ i)) := fun i hi => by
            rw [← hy, Nat.testBit_and, mask_bit _ (Nat.mod_lt _ (by decide)) i hi]
          have hy2 : y < 18446744073709551616 := by rw [← hy]; exact Nat.lt_of_le_of_lt Nat.and_le_left hx2
          by_cases hy0 : y = 0
          · have e2 : ((y : Int) != 0) = false := by rw [hy0]; rfl
            rw [e2]
            refine led_no (by simp) ?_
            rw [hw1]
            refine led_k ⟨_, rfl, ⟨j + 1, by omega, by omega, by omega, fun s h1 h2 => ?_⟩, by omega⟩
            have h3 : s / 64 = j := by omega
            rw [bitAt_word hx h3]
            have := hyb (s % 64) (Nat.mod_lt _ (by decide))
            rw [hy0, Nat.zero_testBit, decide_eq_true (by omega), Bool.and_true] at this
            exact this.symm
          · have e2 : ((y : Int) != 0) = true := by simp; omega
            obtain ⟨b1, b2, b3⟩ := ctz_bits hy0 hy2
            have hp : Tz.pre (y : Int) = true := by
              unfold Tz.pre
              exact and_need (decide_eq_true (by omega)) (decide_eq_true (by omega))
            refine led_yes e2 (led_need hp ?_)
            have ef : (Tz.fn (y : Int)).1 = (Lib.ctz 64 y : Int) := by
              show (Lib.ctz 64 (y : Int).toNat : Int) = _
              rw [Int.toNat_natCast]
            have hw3 : IntKind.wrap .i64 ((64 : Int) * (j : Int) + (Lib.ctz 64 y : Int)) = (64 : Int) * (j : Int) + (Lib.ctz 64 y : Int) := wr (by omega) (by omega)
            rw [ef, hw2, hw3]
            have hL : IsLeast dr fr (64 * j + Lib.ctz 64 y) := by
              have c1 := hyb _ b1
              rw [b2] at c1
              have c2 := c1.symm
              rw [Bool.and_eq_true, decide_eq_true_eq] at c2
              refine ⟨by omega, ?_, fun t h1 h2 => ?_⟩
              · rw [bitAt_word hx (show (64 * j + Lib.ctz 64 y) / 64 = j by omega), show (64 * j + Lib.ctz 64 y) % 64 = Lib.ctz 64 y by omega]
                exact c2.1
              · have h3 : t / 64 = j := by omega
                rw [bitAt_word hx h3]
                have := hyb (t % 64) (Nat.mod_lt _ (by decide))
                rw [b3 (t % 64) (by omega), decide_eq_true (by omega), Bool.and_true] at this
                exact this.symm
            refine led_x (.inl ?_)
            rw [leastN_some hL]
            push_cast
            rfl
        · have e1 : ((j : Int) == ((fr / 64 : Nat) : Int)) = false := by
            rw [beq_eq_false_iff_ne]; omega
          rw [e1]
          refine led_no (by simp) ?_
          by_cases hy0 : x = 0
          · have e2 : ((x : Int) != 0) = false := by rw [hy0]; rfl
            rw [e2]
            refine led_no (by simp) ?_
            rw [hw1]
            refine led_k ⟨_, rfl, ⟨j + 1, by omega, by omega, by omega, fun s h1 h2 => ?_⟩, by omega⟩
            by_cases h3 : s / 64 = j
            · rw [bitAt_word hx h3, hy0, Nat.zero_testBit]
            · exact hn s h1 (by omega)
          · have e2 : ((x : Int) != 0) = true := by simp; omega
            obtain ⟨b1, b2, b3⟩ := ctz_bits hy0 hx2
            have hp : Tz.pre (x : Int) = true := by
              unfold Tz.pre
              exact and_need (decide_eq_true (by omega)) (decide_eq_true (by omega))
            refine led_yes e2 (led_need hp ?_)
            have ef : (Tz.fn (x : Int)).1 = (Lib.ctz 64 x : Int) := by
              show (Lib.ctz 64 (x : Int).toNat : Int) = _
              rw [Int.toNat_natCast]
            have hw3 : IntKind.wrap .i64 ((64 : Int) * (j : Int) + (Lib.ctz 64 x : Int)) = (64 : Int) * (j : Int) + (Lib.ctz 64 x : Int) := wr (by omega) (by omega)
            rw [ef, hw2, hw3]
            have hL : IsLeast dr fr (64 * j + Lib.ctz 64 x) := by
              refine ⟨by omega, ?_, fun t h1 h2 => ?_⟩
              · rw [bitAt_word hx (show (64 * j + Lib.ctz 64 x) / 64 = j by omega), show (64 * j + Lib.ctz 64 x) % 64 = Lib.ctz 64 x by omega]
                exact b2
              · by_cases h3 : t / 64 = j
                · rw [bitAt_word hx h3]
                  exact b3 (t % 64) (by omega)
                · exact hn t h1 (by omega)
            refine led_x (.inl ?_)
            rw [leastN_some hL]
            push_cast
            rfl
      · refine leastN_none (fun s hs => ?_)
        by_cases h3 : s < 64 * j
        · exact hn s hs h3
        · exact bit_out (by omega)) ((fr / 64 : Nat) : Int) ⟨fr / 64, rfl, Nat.le_refl _, .inr rfl, fun s h1 h2 => by omega⟩
  obtain ⟨z, hz, hq⟩ := key
  refine leastE.is_fn _ _ _ _ _ _ _ _ _ _ ?_
  unfold leastE.run'
  rw [tdiv64 fr (by omega), hz]
  rcases hq with rfl | ⟨rfl, e⟩
  · rfl
  · rw [e]
theorem mark.is {dr : List Int} (hW : Wds dr) (l : Option (List Int)) (dg bd : List Int) (p : Int) (u : Bool) (q c : Int) (k : List Int) {s : Nat} (hs : s < 64 * dr.length) :
    mark.pre l dg bd dr p u q c k (s : Int) = true ∧ mark.fn l dg bd dr p u q c k (s : Int) = ((l, dg, bd, setBit dr s, p, u, q, c, k, false), ()) := by
  have hlen := hW.len
  refine mark.is_fn _ _ _ _ _ _ _ _ _ _ ?_
  unfold mark.run'
  obtain ⟨x, hx, hx2⟩ := hW.w.nat (s / 64)
  have a0 : (0 : Int) ≤ ((s / 64 : Nat) : Int) := by omega
  have a1 : ((s / 64 : Nat) : Int) < (dr.length : Int) := by omega
  have a2 : (0 : Int) ≤ ((s % 64 : Nat) : Int) := by omega
  have a3 : s / 64 < dr.length := by omega
  have hk : s % 64 < 64 := Nat.mod_lt _ (by decide)
  simp only [tdiv64 s (by omega), tmod64, Int.toNat_natCast, a0, a1, a2, a3, if_true]
  rw [hx, one_shl hk, bz_or hx2 (pow_lt hk)]
  unfold setBit
  rw [hx, Int.toNat_natCast]
theorem NextE.is {dr : List Int} (hW : Wds dr) (l : Option (List Int)) (dg bd : List Int) {p : Int} (hp : 0 ≤ p ∧ p < 4611686018427387904) (u : Bool) (q : Nat) (hq : q < 4294967296) (c : Int) (k : List Int) :
    NextE.pre l dg bd dr p u (q : Int) c k = true ∧ NextE.fn l dg bd dr p u (q : Int) c k =
      if u = false ∧ leastN dr 0 < 0 then ((l, dg, bd, dr, p, u, (q : Int), c, k, false), -1, ())
      else if leastN dr (if u = true then q else 0) < 0 then ((l, dg, bd, dr, p + 1, false, (if u = true then (q : Int) else 0), leastN dr (if u = true then q else 0), k, false), leastN dr (if u = true then q else 0), ())
      else ((l, dg, bd, dr, p, true, (if u = true then (q : Int) else 0), leastN dr (if u = true then q else 0), k, false), leastN dr (if u = true then q else 0), ()) := by
  have hw : IntKind.wrap .i64 (p + 1) = p + 1 := wr (by omega) (by omega)
  refine NextE.is_fn _ _ _ _ _ _ _ _ _ ?_
  unfold NextE.run'
  cases u with
  | false =>
    obtain ⟨h1, h2⟩ := leastE.is hW l dg bd p false (q : Int) c k (fr := 0) (by decide)
    obtain ⟨h3, h4⟩ := leastE.is hW l dg bd p true 0 c k (fr := 0) (by decide)
    have h1 : leastE.pre l dg bd dr p false (q : Int) c k (0 : Int) = true := h1
    have h2 : leastE.fn l dg bd dr p false (q : Int) c k (0 : Int) = _ := h2
    have h3 : leastE.pre l dg bd dr p true (0 : Int) c k (0 : Int) = true := h3
    have h4 : leastE.fn l dg bd dr p true (0 : Int) c k (0 : Int) = _ := h4
    by_cases hn : leastN dr 0 < 0
    · simp [letZ, h1, h2, hn]
    · simp [letZ, h1, h2, h3, h4, hn]
  | true =>
    obtain ⟨h1, h2⟩ := leastE.is hW l dg bd p true (q : Int) c k hq
    by_cases hn : leastN dr q < 0
    · simp [letZ, h1, h2, hn, hw]
    · simp [letZ, h1, h2, hn, hw]
theorem DoneE.is {dr : List Int} (hW : Wds dr) (l : Option (List Int)) (dg bd : List Int) (p : Int) (u : Bool) (q c : Int) (k : List Int) :
    DoneE.pre l dg bd dr p u q c k = true ∧ DoneE.fn l dg bd dr p u q c k = ((l, dg, bd, dr, p, u, q, c, k, false), (!u && decide (leastN dr 0 < 0)), ()) := by
  refine DoneE.is_fn _ _ _ _ _ _ _ _ _ ?_
  unfold DoneE.run'
  cases u with
  | false =>
    obtain ⟨h1, h2⟩ := leastE.is hW l dg bd p false q c k (fr := 0) (by decide)
    have h1 : leastE.pre l dg bd dr p false q c k (0 : Int) = true := h1
    have h2 : leastE.fn l dg bd dr p false q c k (0 : Int) = _ := h2
    simp [letZ, h1, h2]
  | true => rfl
/-- What Dirty tells. -/
def flagsOf (n : Nat) (dr : List Int) : List Bool := (List.range n).map (bitAt dr)
theorem flagsOf_len (n : Nat) (dr : List Int) : (flagsOf n dr).length = n := by simp [flagsOf]
theorem flagsOf_get {n : Nat} {dr : List Int} {i : Nat} (h : i < n) : (flagsOf n dr).getD i false = bitAt dr i := by
  unfold flagsOf
  rw [List.getD_eq_getElem?_getD, List.getElem?_map, List.getElem?_range h]
  rfl
theorem shr_bit {x : Nat} (hx : x < 18446744073709551616) {k : Nat} (hk : k < 64) : (bitsZ .and .u64 (Int.fdiv (x : Int) ((2 : Int) ^ (min k 64 : Nat))) 1 != 0) = x.testBit k := by
  have e : Int.fdiv (x : Int) ((2 : Int) ^ (min k 64 : Nat)) = ((x / 2 ^ k : Nat) : Int) := by
    rw [Nat.min_eq_left (by omega), Int.fdiv_eq_ediv_of_nonneg _ (Int.le_of_lt (Int.pow_pos (by decide)))]
    push_cast
    rfl
  rw [e, show (1 : Int) = ((1 : Nat) : Int) from rfl, bz_and (Nat.lt_of_le_of_lt (Nat.div_le_self _ _) hx) (by decide)]
  rw [Nat.testBit_eq_decide_div_mod_eq, Nat.and_one_is_mod]
  have := Nat.mod_two_eq_zero_or_one (x / 2 ^ k)
  rcases this with h | h <;> simp [h]
theorem DirtyE.is {dr : List Int} (hW : Wds dr) {cs : List Int} (hc : cs.length < 64 * dr.length) (dg bd : List Int) (p : Int) (u : Bool) (q c : Int) (k : List Int) :
    DirtyE.pre (some cs) dg bd dr p u q c k = true ∧ DirtyE.fn (some cs) dg bd dr p u q c k = ((some cs, dg, bd, dr, p, u, q, c, k, false), flagsOf cs.length dr, ()) := by
  have hlen := hW.len
  have hS : Shards.pre (some cs) = true ∧ Shards.fn (some cs) = ((cs.length : Int), ()) := Shards.is_fn _ rfl
  have key := DirtyE.F3_inv (t12 := (cs.length : Int)) (c0x0 := some cs) (c0x4 := p) (c0x5 := u) (c0x6 := q) (c0x7 := c) (r1 := dg) (r2 := bd) (r3 := dr) (r4 := k)
    (fun i r => ∃ j : Nat, i = (j : Int) ∧ j ≤ cs.length ∧ r.length = cs.length ∧ ∀ s, s < j → r.getD s false = bitAt dr s) (fun i _ => cs.length - i.toNat)
    (fun z => z = ((), ((some cs, p, u, q, c, ()), dg, bd, dr, k, flagsOf cs.length dr, ())))
    (fun i r hI => by
      obtain ⟨j, rfl, hj, hr, hv⟩ := hI
      unfold DirtyE.R3
      refine led_dif (fun q1 => ?_) (fun q1 => led_x ?_)
      · have hjl : j < cs.length := by omega
        obtain ⟨x, hx, hx2⟩ := hW.w.nat (j / 64)
        have hw : IntKind.wrap .i64 ((j : Int) + 1) = (j : Int) + 1 := wr (by omega) (by omega)
        have a0 : (0 : Int) ≤ ((j / 64 : Nat) : Int) := by omega
        have a1 : ((j / 64 : Nat) : Int) < (dr.length : Int) := by omega
        have a2 : (0 : Int) ≤ ((j % 64 : Nat) : Int) := by omega
        have a3 : (0 : Int) ≤ (j : Int) := by omega
        have a4 : (j : Int) < (r.length : Int) := by omega
        have a5 : j < r.length := by omega
        simp only [tdiv64 j (by omega), tmod64, Int.toNat_natCast, a0, a1, a2, a3, a4, a5, hw, if_true]
        rw [hx, shr_bit hx2 (Nat.mod_lt _ (by decide))]
        refine led_k ⟨_, _, rfl, ⟨j + 1, by omega, by omega, by rw [List.length_set]; exact hr, fun s hs => ?_⟩, by omega⟩
        rw [getD_setP]
        by_cases e : j = s
        · subst e
          rw [if_pos ⟨rfl, a5⟩, bitAt_word hx rfl]
        · rw [if_neg (fun h => e h.1)]
          exact hv s (by omega)
      · obtain rfl : j = cs.length := by omega
        have : r = flagsOf cs.length dr := by
          refine List.ext_getElem (by rw [hr, flagsOf_len]) (fun s h1 h2 => ?_)
          have e1 := hv s (by omega)
          have e2 := flagsOf_get (n := cs.length) (dr := dr) (i := s) (by omega)
          rw [List.getD_eq_getElem?_getD, List.getElem?_eq_getElem h1] at e1
          rw [List.getD_eq_getElem?_getD, List.getElem?_eq_getElem h2] at e2
          exact e1.trans e2.symm
        rw [this]) 0 (List.replicate cs.length false) ⟨0, rfl, by omega, List.length_replicate, fun s hs => by omega⟩
  obtain ⟨z, hz, rfl⟩ := key
  refine DirtyE.is_fn _ _ _ _ _ _ _ _ _ ?_
  unfold DirtyE.run'
  have b0 : (0 : Int) ≤ (cs.length : Int) := by omega
  have b1 : cs.length * 1 ≤ 140737488355328 := by omega
  rw [hS.2]
  simp only [hS.1, Int.toNat_natCast, b0, b1, List.length_replicate, if_true, hz]
theorem PassesE.is (l : Option (List Int)) (dg bd dr : List Int) (p : Int) (u : Bool) (q c : Int) (k : List Int) :
    PassesE.pre l dg bd dr p u q c k = true ∧ PassesE.fn l dg bd dr p u q c k = ((l, dg, bd, dr, p, u, q, c, k, false), p, ()) := PassesE.is_fn _ _ _ _ _ _ _ _ _ rfl
theorem BoundsE.is (l : Option (List Int)) (dg bd dr : List Int) (hb : bd.length ≤ 1048576) (p : Int) (u : Bool) (q c : Int) (k : List Int) :
    BoundsE.pre l dg bd dr p u q c k = true ∧ BoundsE.fn l dg bd dr p u q c k = ((l, dg, bd, dr, p, u, q, c, k, false), bd, ()) := by
  have hp : CloneI.pre bd = true := decide_eq_true (by omega)
  refine BoundsE.is_fn _ _ _ _ _ _ _ _ _ ?_
  unfold BoundsE.run'
  simp only [hp, if_true]
  rfl
end Go.Proofs.YthbojpaghbbnnaaDoor.Z
namespace Go.Proofs.YthbojpaghbbnnaaDoor.Z
open Go Go.RowKit Esx
set_option linter.unusedVariables false
set_option linter.unusedSimpArgs false
theorem LayN.is {n : Nat} {cs : List Int} (hC : Cuts n cs) (hl : cs.length ≤ 65536) : LayN.pre (some cs) = true ∧ LayN.fn (some cs) = ((n : Int), ()) := by
  refine LayN.is_fn _ ?_
  unfold LayN.run'
  have hlast := hC.last
  cases hk : cs.length with
  | zero =>
    rw [hk] at hlast
    simp only [lowC] at hlast
    have e : cs = [] := List.eq_nil_of_length_eq_zero hk
    subst e
    simp [← hlast]
  | succ j =>
    rw [hk] at hlast
    simp only [lowC] at hlast
    have e1 : (((cs.length : Nat) : Int) == 0) = false := by rw [hk, beq_eq_false_iff_ne]; omega
    have hw : IntKind.wrap .i64 (((cs.length : Nat) : Int) - 1) = (j : Int) := by rw [wr (by omega) (by omega)]; omega
    have a1 : (0 : Int) ≤ (j : Int) := by omega
    have a2 : (j : Int) < (cs.length : Int) := by omega
    simp only [Option.isSome_some, Option.getD_some, e1, hw, a1, a2, if_true, Int.toNat_natCast, hlast]
    rfl
theorem RangeL.is {cs : List Int} (hl : cs.length ≤ 65536) {s : Nat} (hs : s < cs.length) : RangeL.pre (some cs) (s : Int) = true ∧ RangeL.fn (some cs) (s : Int) = (lowC cs s, lowC cs (s + 1), ()) := by
  refine RangeL.is_fn _ _ ?_
  unfold RangeL.run'
  have e1 : ¬ ((s : Int) < 0) := by omega
  have e2 : ¬ ((s : Int) ≥ (cs.length : Int)) := by omega
  have a0 : (0 : Int) ≤ (s : Int) := by omega
  have a1 : (s : Int) < (cs.length : Int) := by omega
  cases s with
  | zero =>
    have a3 : (0 : Int) < (cs.length : Int) := by omega
    simp only [Option.isSome_some, Option.getD_some, e1, e2, decide_false, if_true, a3]
    rfl
  | succ s =>
    have e3 : (((s + 1 : Nat) : Int) == 0) = false := by rw [beq_eq_false_iff_ne]; omega
    have hw : IntKind.wrap .i64 (((s + 1 : Nat) : Int) - 1) = (s : Int) := by rw [wr (by omega) (by omega)]; omega
    have a3 : (0 : Int) ≤ (s : Int) := by omega
    have a4 : (s : Int) < (cs.length : Int) := by omega
    simp only [Option.isSome_some, Option.getD_some, e1, e2, e3, decide_false, if_true, a0, a1, a3, a4, hw, Int.toNat_natCast]
    rfl
/-- May these be a vertex's neighbours? -/
def rowB (n v : Int) : Int → List Int → Bool
  | _, [] => true
  | last, u :: t => decide (last < u) && decide (u < n) && decide (u ≠ v) && rowB n v u t
/-- Are these the lists of the vertices? -/
def fitsB (dg : List Int) (n : Int) : List Nat → List (Int × List Int) → Bool
  | [], ls => ls.isEmpty
  | v :: vs, ls => if dg.getD v 0 = 0 then fitsB dg n vs ls else match ls with
    | [] => false
    | x :: ls => decide (x.1 = (v : Int)) && decide ((x.2.length : Int) = dg.getD v 0) && rowB n (v : Int) (-1) x.2 && fitsB dg n vs ls
theorem range'_cons (b k : Nat) : List.range' b (k + 1) = b :: List.range' (b + 1) k := List.range'_succ
theorem fits.is {n : Nat} {cs : List Int} (hC : Cuts n cs) (hl : cs.length ≤ 65536) {dg : List Int} (hn : n ≤ dg.length) (hn2 : n ≤ 1099511627776) (bd dr : List Int) (p : Int) (u : Bool) (q c : Int) (k : List Int) {s : Nat} (hs : s < cs.length) (ls : List (Int × List Int)) (hls : ls.length < 4294967296) (hlt : ∀ i, ((ls.getD i (0, [])).2).length < 4294967296) :
    fits.pre (some cs) dg bd dr p u q c k (s : Int) ls = true ∧ fits.fn (some cs) dg bd dr p u q c k (s : Int) ls = ((some cs, dg, bd, dr, p, u, q, c, k, false), fitsB dg n (List.range' (lowC cs s).toNat ((lowC cs (s + 1)).toNat - (lowC cs s).toNat)) ls, ()) := by
  obtain ⟨N1, N2⟩ := LayN.is hC hl
  obtain ⟨r1, r2⟩ := RangeL.is hl hs
  have b1 := hC.lt hs
  have b2 := hC.low0 (s := s) (by omega)
  have b3 := hC.lown (s := s + 1) (by omega)
  obtain ⟨lo, hlo⟩ : ∃ lo : Nat, lowC cs s = (lo : Int) := ⟨(lowC cs s).toNat, by omega⟩
  obtain ⟨hi, hhi⟩ : ∃ hi : Nat, lowC cs (s + 1) = (hi : Int) := ⟨(lowC cs (s + 1)).toNat, by omega⟩
  rw [hlo, hhi] at b1
  rw [hhi] at b3
  rw [hlo, hhi] at r2 ⊢
  rw [Int.toNat_natCast, Int.toNat_natCast]
  -- the inner loop
  have inner : ∀ (a b : Nat) (ts : List Int), ts.length < 4294967296 → ∃ z, fits.F11 ls (hi : Int) (a : Int) (b : Int) (-1) ts (ts.length : Int) 0 (some cs) p u q c dg bd dr k = some z ∧
      ((z = Sum.inl ((false, ()), ((some cs, p, u, q, c, ()), dg, bd, dr, k, ())) ∧ rowB n (b : Int) (-1) ts = false) ∨ (z = Sum.inr ((ls, (hi : Int), (a : Int), (b : Int), ()), ((some cs, p, u, q, c, ()), dg, bd, dr, k, ())) ∧ rowB n (b : Int) (-1) ts = true)) := fun a b ts hto =>
    fits.F11_inv (lists2 := ls) (hi8 := (hi : Int)) (i9 := (a : Int)) (v10 := (b : Int)) (t70 := ts) (t71 := (ts.length : Int)) (c0x0 := some cs) (c0x4 := p) (c0x5 := u) (c0x6 := q) (c0x7 := c) (r1 := dg) (r2 := bd) (r3 := dr) (r4 := k)
      (fun last i => ∃ j : Nat, i = (j : Int) ∧ j ≤ ts.length ∧ rowB n (b : Int) last (ts.drop j) = rowB n (b : Int) (-1) ts) (fun _ i => ts.length - i.toNat)
      (fun z => (z = Sum.inl ((false, ()), ((some cs, p, u, q, c, ()), dg, bd, dr, k, ())) ∧ rowB n (b : Int) (-1) ts = false) ∨ (z = Sum.inr ((ls, (hi : Int), (a : Int), (b : Int), ()), ((some cs, p, u, q, c, ()), dg, bd, dr, k, ())) ∧ rowB n (b : Int) (-1) ts = true))
      (fun last i hI => by
        obtain ⟨j, rfl, hj, hr⟩ := hI
        unfold fits.R11
        refine led_dif (fun q1 => ?_) (fun q1 => led_x (.inr ⟨rfl, ?_⟩))
        · have hjl : j < ts.length := by omega
          have a0 : (0 : Int) ≤ (j : Int) := by omega
          have hw : IntKind.wrap .i64 ((j : Int) + 1) = (j : Int) + 1 := wr (by omega) (by omega)
          refine led_need a0 (led_need q1 ?_)
          rw [Int.toNat_natCast, N2]
          rw [drop_getD 0 ts j hjl] at hr
          simp only [rowB] at hr
          by_cases h1 : ts.getD j 0 ≤ last
          · rw [decide_eq_true h1]
            refine led_no (by simp) (led_x (.inl ⟨rfl, ?_⟩))
            rw [← hr, decide_eq_false (by omega)]
            simp
          · rw [decide_eq_false h1]
            refine led_yes rfl (led_need N1 ?_)
            by_cases h2 : ts.getD j 0 ≥ (n : Int)
            · rw [decide_eq_true h2]
              refine led_no (by simp) (led_x (.inl ⟨rfl, ?_⟩))
              rw [← hr, decide_eq_false (show ¬ ts.getD j 0 < (n : Int) by omega)]
              simp
            · rw [decide_eq_false h2]
              refine led_yes rfl ?_
              by_cases h3 : ts.getD j 0 = (b : Int)
              · refine led_yes (beq_iff_eq.2 h3) (led_x (.inl ⟨rfl, ?_⟩))
                rw [← hr, decide_eq_false (show ¬ ts.getD j 0 ≠ (b : Int) by omega)]
                simp
              · refine led_no (fun e => h3 (beq_iff_eq.1 e)) ?_
                rw [hw]
                refine led_k ⟨_, _, rfl, ⟨j + 1, by omega, by omega, ?_⟩, by omega⟩
                rw [decide_eq_true (by omega), decide_eq_true (by omega), decide_eq_true h3] at hr
                simpa using hr
        · obtain rfl : j = ts.length := by omega
          rw [List.drop_length] at hr
          rw [← hr]
          rfl) (-1) 0 ⟨0, rfl, by omega, rfl⟩
  have key := fits.F4_inv (lists2 := ls) (hi8 := (hi : Int)) (c0x0 := some cs) (c0x4 := p) (c0x5 := u) (c0x6 := q) (c0x7 := c) (r1 := dg) (r2 := bd) (r3 := dr) (r4 := k)
    (fun i v => ∃ a b : Nat, i = (a : Int) ∧ v = (b : Int) ∧ a ≤ ls.length ∧ b ≤ hi ∧ fitsB dg n (List.range' b (hi - b)) (ls.drop a) = fitsB dg n (List.range' lo (hi - lo)) ls) (fun _ v => hi - v.toNat)
    (fun z => (z = Sum.inl ((false, ()), ((some cs, p, u, q, c, ()), dg, bd, dr, k, ())) ∧ fitsB dg n (List.range' lo (hi - lo)) ls = false) ∨ ∃ a : Nat, z = Sum.inr ((ls, (a : Int), ()), ((some cs, p, u, q, c, ()), dg, bd, dr, k, ())) ∧ ((a : Int) == (ls.length : Int)) = fitsB dg n (List.range' lo (hi - lo)) ls)
    (fun i v hI => by
      obtain ⟨a, b, rfl, rfl, ha, hb, hf⟩ := hI
      unfold fits.R4
      refine led_dif (fun q1 => ?_) (fun q1 => led_x (.inr ⟨a, rfl, ?_⟩))
      · have hbl : b < hi := by omega
        have a0 : (0 : Int) ≤ (b : Int) := by omega
        have a1 : (b : Int) < (dg.length : Int) := by omega
        have a2 : (0 : Int) ≤ (a : Int) := by omega
        have hw : IntKind.wrap .i64 ((b : Int) + 1) = (b : Int) + 1 := wr (by omega) (by omega)
        have hw2 : IntKind.wrap .i64 ((a : Int) + 1) = (a : Int) + 1 := wr (by omega) (by omega)
        have er : List.range' b (hi - b) = b :: List.range' (b + 1) (hi - (b + 1)) := by
          rw [show hi - b = (hi - (b + 1)) + 1 by omega]
          exact range'_cons _ _
        rw [er] at hf
        simp only [fitsB] at hf
        refine led_need a0 (led_need a1 ?_)
        rw [Int.toNat_natCast, Int.toNat_natCast]
        by_cases h0 : dg.getD b 0 = 0
        · rw [if_pos h0] at hf
          refine led_yes (beq_iff_eq.2 h0) ?_
          rw [hw]
          exact led_k ⟨_, _, rfl, ⟨a, b + 1, rfl, by omega, ha, by omega, hf⟩, by omega⟩
        · rw [if_neg h0] at hf
          refine led_no (fun e => h0 (beq_iff_eq.1 e)) ?_
          by_cases hal : a = ls.length
          · have e : ((a : Int) == (ls.length : Int)) = true := by rw [hal]; simp
            rw [e]
            refine led_no (by simp) (led_x (.inl ⟨rfl, ?_⟩))
            rw [← hf, hal, List.drop_length]
          · have hal : a < ls.length := by omega
            have e : ((a : Int) == (ls.length : Int)) = false := by rw [beq_eq_false_iff_ne]; omega
            have a3 : (a : Int) < (ls.length : Int) := by omega
            rw [e]
            refine led_yes rfl (led_need a2 (led_need a3 ?_))
            rw [drop_getD (0, []) ls a hal] at hf
            simp only at hf
            by_cases h1 : (ls.getD a (0, [])).1 = (b : Int)
            · have e1 : ((ls.getD a (0, [])).1 != (b : Int)) = false := by rw [h1]; simp
              rw [e1]
              refine led_yes rfl (led_need a2 (led_need a3 (led_need a0 (led_need a1 ?_))))
              by_cases h2 : (((ls.getD a (0, [])).2.length : Nat) : Int) = dg.getD b 0
              · refine led_no (fun e => (bne_iff_ne.1 e) h2) (led_need a2 (led_need a3 ?_))
                obtain ⟨z, hz, hq⟩ := inner a b (ls.getD a (0, [])).2 (hlt a)
                rw [decide_eq_true h1, decide_eq_true h2] at hf
                rcases hq with ⟨rfl, hq⟩ | ⟨rfl, hq⟩
                · refine led_eq (fun R k kx => by rw [hz]) (led_x (.inl ⟨rfl, ?_⟩))
                  rw [← hf, hq]
                  simp
                · refine led_eq (fun R k kx => by rw [hz]) ?_
                  simp only
                  rw [hw, hw2]
                  refine led_k ⟨_, _, rfl, ⟨a + 1, b + 1, by omega, by omega, by omega, by omega, ?_⟩, by omega⟩
                  rw [← hf, hq]
                  simp
              · refine led_yes (bne_iff_ne.2 h2) (led_x (.inl ⟨rfl, ?_⟩))
                rw [← hf, decide_eq_false h2]
                simp
            · have e1 : ((ls.getD a (0, [])).1 != (b : Int)) = true := bne_iff_ne.2 h1
              rw [e1]
              refine led_no (by simp) (led_x (.inl ⟨rfl, ?_⟩))
              rw [← hf, decide_eq_false h1]
              simp
      · obtain rfl : b = hi := by omega
        rw [Nat.sub_self] at hf
        simp only [List.range'_zero, fitsB] at hf
        rw [← hf]
        cases hd : (ls.drop a) with
        | nil =>
          have := List.drop_eq_nil_iff.1 hd
          rw [show a = ls.length by omega]
          simp
        | cons x t =>
          have : a ≠ ls.length := fun h => by rw [h, List.drop_length] at hd; cases hd
          rw [beq_eq_false_iff_ne.2 (by omega)]
          rfl) 0 (lo : Int) ⟨0, lo, rfl, rfl, by omega, by omega, rfl⟩
  obtain ⟨z, hz, hq⟩ := key
  refine fits.is_fn _ _ _ _ _ _ _ _ _ _ _ ?_
  unfold fits.run'
  rw [r2]
  simp only [r1, if_true]
  rw [hz]
  rcases hq with ⟨rfl, hq⟩ | ⟨a, rfl, hq⟩
  · rw [hq]
  · simp only [hq]
end Go.Proofs.YthbojpaghbbnnaaDoor.Z
namespace Go.Proofs.YthbojpaghbbnnaaDoor.Z
open Go Go.RowKit Esx
set_option linter.unusedVariables false
set_option linter.unusedSimpArgs false
theorem layNew.is {n : Nat} {cs : List Int} (hC : Cuts n cs) (hn : n ≤ 16777216) (hl : cs.length ≤ 1000) : layNew.pre (n : Int) cs = true ∧ layNew.fn (n : Int) cs = (some cs, 0, ()) := by
  have key := layNew.F5_inv (n0 := (n : Int)) (cuts1 := cs) (t15 := cs) (t16 := (cs.length : Int)) (fun last i => ∃ j : Nat, i = (j : Int) ∧ j ≤ cs.length ∧ last = lowC cs j) (fun _ i => cs.length - i.toNat)
    (fun z => z = Sum.inr (((n : Int), cs, (n : Int), ()), ())) (fun last i hI => by
      obtain ⟨j, rfl, hj, rfl⟩ := hI
      unfold layNew.R5
      refine led_dif (fun q1 => ?_) (fun q1 => led_x ?_)
      · have hjl : j < cs.length := by omega
        have hw : IntKind.wrap .i64 ((j : Int) + 1) = (j : Int) + 1 := wr (by omega) (by omega)
        have h1 := hC.lt hjl
        refine led_need (by omega) (led_need q1 ?_)
        rw [Int.toNat_natCast, decide_eq_false (show ¬ cs.getD j 0 ≤ lowC cs j from by
          have : lowC cs (j + 1) = cs.getD j 0 := rfl
          omega), hw]
        exact led_no (by simp) (led_k ⟨_, _, rfl, ⟨j + 1, by omega, by omega, rfl⟩, by omega⟩)
      · obtain rfl : j = cs.length := by omega
        rw [hC.last]) 0 0 ⟨0, rfl, by omega, rfl⟩
  obtain ⟨z, hz, rfl⟩ := key
  refine layNew.is_fn _ _ ?_
  unfold layNew.run'
  have e1 : ¬ ((n : Int) < 0) := by omega
  have e2 : ¬ ((n : Int) > 16777216) := by omega
  have e3 : ¬ ((cs.length : Int) > 1000) := by omega
  have e4 : ((n : Int) != (n : Int)) = false := by simp
  have e5 : cs.length * 8 ≤ 140737488355328 := by omega
  have e6 : (0 + cs.length) * 8 ≤ 140737488355328 := by omega
  rw [hz]
  simp only [e1, e2, e3, e4, e5, e6, decide_false, if_true, Int.toNat_natCast, List.nil_append, Bool.false_eq_true, if_false]
/-- May these be degrees? -/
def mayB (n : Nat) (dg : List Int) : Bool := dg.all (fun d => decide (0 ≤ d) && decide (d < (n : Int))) && decide (dg.length = n)
theorem may.is {n : Nat} {cs : List Int} (hC : Cuts n cs) (hl : cs.length ≤ 65536) {dg : List Int} (hd : dg.length ≤ 1099511627776) : may.pre (some cs) dg = true ∧ may.fn (some cs) dg = (mayB n dg, ()) := by
  obtain ⟨N1, N2⟩ := LayN.is hC hl
  have key := may.F2_inv (l0 := some cs) (degrees1 := dg) (t7 := dg) (t8 := (dg.length : Int)) (fun i => ∃ j : Nat, i = (j : Int) ∧ j ≤ dg.length ∧ ∀ k, k < j → 0 ≤ dg.getD k 0 ∧ dg.getD k 0 < (n : Int)) (fun i => dg.length - i.toNat)
    (fun z => (z = Sum.inl ((false, ()), ()) ∧ ∃ k, k < dg.length ∧ ¬ (0 ≤ dg.getD k 0 ∧ dg.getD k 0 < (n : Int))) ∨ (z = Sum.inr ((some cs, dg, ()), ()) ∧ ∀ k, k < dg.length → 0 ≤ dg.getD k 0 ∧ dg.getD k 0 < (n : Int))) (fun i hI => by
      obtain ⟨j, rfl, hj, hv⟩ := hI
      unfold may.R2
      refine led_dif (fun q1 => ?_) (fun q1 => led_x (.inr ⟨rfl, ?_⟩))
      · have hjl : j < dg.length := by omega
        have hw : IntKind.wrap .i64 ((j : Int) + 1) = (j : Int) + 1 := wr (by omega) (by omega)
        refine led_need (by omega) (led_need q1 ?_)
        rw [Int.toNat_natCast, N2]
        by_cases h1 : dg.getD j 0 < 0
        · rw [decide_eq_true h1]
          exact led_no (by simp) (led_x (.inl ⟨rfl, j, hjl, by omega⟩))
        · rw [decide_eq_false h1]
          refine led_yes rfl (led_need N1 ?_)
          by_cases h2 : dg.getD j 0 ≥ (n : Int)
          · rw [decide_eq_true h2]
            exact led_yes rfl (led_x (.inl ⟨rfl, j, hjl, by omega⟩))
          · rw [decide_eq_false h2, hw]
            refine led_no (by simp) (led_k ⟨_, rfl, ⟨j + 1, by omega, by omega, fun k hk => ?_⟩, by omega⟩)
            by_cases e : k = j
            · subst e; omega
            · exact hv k (by omega)
      · obtain rfl : j = dg.length := by omega
        exact hv) 0 ⟨0, rfl, by omega, fun k hk => by omega⟩
  obtain ⟨z, hz, hq⟩ := key
  refine may.is_fn _ _ ?_
  unfold may.run'
  rw [hz]
  unfold mayB
  rcases hq with ⟨rfl, k, hk, hn⟩ | ⟨rfl, hv⟩
  · have : dg.all (fun d => decide (0 ≤ d) && decide (d < (n : Int))) = false := by
      rw [List.all_eq_false]
      refine ⟨dg.getD k 0, mem_getD 0 dg k hk, ?_⟩
      simp only [Bool.and_eq_true, decide_eq_true_eq]
      exact hn
    simp only [this, Bool.false_and]
  · have : dg.all (fun d => decide (0 ≤ d) && decide (d < (n : Int))) = true := by
      rw [List.all_eq_true]
      intro x hx
      obtain ⟨k, hk, rfl⟩ := (mem_idx 0).1 hx
      have := hv k hk
      simp only [Bool.and_eq_true, decide_eq_true_eq]
      exact this
    simp only [this, N1, N2, if_true, Bool.true_and]
    have e : ((dg.length : Int) == (n : Int)) = decide (dg.length = n) := by
      by_cases h : dg.length = n
      · rw [h]; simp
      · rw [decide_eq_false h, beq_eq_false_iff_ne]; omega
    rw [e]
theorem tmod_in (x : Int) {m : Int} (h : 0 < m) : -m < Int.tmod x m ∧ Int.tmod x m < m := by
  have g1 := Int.tmod_lt_of_pos x h
  have := Int.tmod_lt_of_pos (-x) h
  rw [Int.neg_tmod] at this
  omega
/-- Cuts so far: they rise to c. -/
structure Rise (r : List Int) (c : Int) : Prop where
  rise : ∀ i j, i < j → j < r.length → r.getD i 0 < r.getD j 0
  pos : ∀ i, i < r.length → 0 < r.getD i 0
  last : lowC r r.length = c
theorem lowC_snoc (r : List Int) (x : Int) : lowC (r ++ [x]) (r ++ [x]).length = x := by
  rw [List.length_append]
  show (r ++ [x]).getD r.length 0 = x
  rw [List.getD_eq_getElem?_getD, List.getElem?_append_right (Nat.le_refl _)]
  simp
theorem getD_snoc (r : List Int) (x : Int) (i : Nat) : (r ++ [x]).getD i 0 = if i < r.length then r.getD i 0 else if i = r.length then x else 0 := by
  rw [List.getD_eq_getElem?_getD]
  by_cases h : i < r.length
  · rw [List.getElem?_append_left h, if_pos h, List.getD_eq_getElem?_getD]
  · rw [List.getElem?_append_right (by omega), if_neg h]
    by_cases e : i = r.length
    · rw [if_pos e, e, Nat.sub_self]; rfl
    · rw [if_neg e]
      have : [x][i - r.length]? = none := List.getElem?_eq_none (by simp; omega)
      rw [this]; rfl
theorem Rise.top {r : List Int} {c : Int} (h : Rise r c) (h0 : 0 ≤ c) {i : Nat} (hi : i < r.length) : r.getD i 0 ≤ c := by
  have hl := h.last
  cases hk : r.length with
  | zero => omega
  | succ k =>
    rw [hk] at hl
    simp only [lowC] at hl
    rcases Nat.lt_or_ge i k with e | e
    · have := h.rise i k e (by omega)
      omega
    · obtain rfl : i = k := by omega
      omega
theorem Rise.snoc {r : List Int} {c x : Int} (h : Rise r c) (h0 : 0 ≤ c) (hx : c < x) : Rise (r ++ [x]) x where
  rise := fun i j hij hj => by
    rw [List.length_append, List.length_singleton] at hj
    rw [getD_snoc, getD_snoc]
    by_cases hj2 : j < r.length
    · rw [if_pos hj2, if_pos (by omega)]
      exact h.rise i j hij hj2
    · rw [if_neg hj2, if_pos (by omega), if_pos (by omega)]
      have := h.top h0 (i := i) (by omega)
      omega
  pos := fun i hi => by
    rw [List.length_append, List.length_singleton] at hi
    rw [getD_snoc]
    by_cases h2 : i < r.length
    · rw [if_pos h2]; exact h.pos i h2
    · rw [if_neg h2, if_pos (by omega)]; omega
  last := lowC_snoc r x
/-- The cuts that sizes make. -/
noncomputable def cutsBy (n : Nat) (sizes : List Int) : List Int := (cuts17.fn (n : Int) sizes).1
theorem cuts17.is {n : Nat} (hn : n ≤ 400) (sizes : List Int) : cuts17.pre (n : Int) sizes = true ∧ cuts17.fn (n : Int) sizes = (cutsBy n sizes, ()) ∧ Cuts n (cutsBy n sizes) ∧ (cutsBy n sizes).length ≤ 401 := by
  have key := cuts17.F4_inv (n0 := (n : Int)) (sizes1 := sizes) (fun c i r => ∃ j : Nat, i = (j : Int) ∧ j ≤ 400 ∧ r.length = j ∧ Rise r c ∧ 0 ≤ c ∧ c ≤ (n : Int)) (fun _ i _ => 400 - i.toNat)
    (fun z => ∃ c r, z = (((n : Int), c, ()), (r, ())) ∧ r.length ≤ 400 ∧ Rise r c ∧ 0 ≤ c ∧ c ≤ (n : Int)) (fun c i r hI => by
      obtain ⟨j, rfl, hj, hr, hR, c0, c1⟩ := hI
      unfold cuts17.R4
      simp only [pickZ_min]
      have out : ∃ c' r', ((((n : Int), c, ()), (r, ())) : cuts17.X4) = (((n : Int), c', ()), (r', ())) ∧ r'.length ≤ 400 ∧ Rise r' c' ∧ 0 ≤ c' ∧ c' ≤ (n : Int) := ⟨c, r, rfl, by omega, hR, c0, c1⟩
      refine led_dif (fun q1 => ?_) (fun q1 => led_x out)
      refine led_dif (fun q2 => ?_) (fun q2 => led_x out)
      refine led_dif (fun q3 => ?_) (fun q3 => led_x out)
      have hw : IntKind.wrap .i64 ((j : Int) + 1) = (j : Int) + 1 := wr (by omega) (by omega)
      refine led_need (by omega) (led_need q1 ?_)
      have t1 := tmod_in (sizes.getD ((j : Int)).toNat 0) (show (0 : Int) < 50 by omega)
      have w1 : IntKind.wrap .i64 (Int.tmod (sizes.getD ((j : Int)).toNat 0) 50 + 50) = Int.tmod (sizes.getD ((j : Int)).toNat 0) 50 + 50 := wr (by omega) (by omega)
      rw [w1, hw]
      have t2 := tmod_in (Int.tmod (sizes.getD ((j : Int)).toNat 0) 50 + 50) (show (0 : Int) < 50 by omega)
      have t3 := Int.tmod_nonneg 50 (show 0 ≤ Int.tmod (sizes.getD ((j : Int)).toNat 0) 50 + 50 by omega)
      generalize ht : Int.tmod (Int.tmod (sizes.getD ((j : Int)).toNat 0) 50 + 50) 50 = t at *
      have w2 : IntKind.wrap .i64 (c + t) = c + t := wr (by omega) (by omega)
      have w3 : IntKind.wrap .i64 (c + t + 1) = c + t + 1 := wr (by omega) (by omega)
      rw [w2, w3]
      obtain ⟨x, hx⟩ : ∃ x, (if c + t + 1 < (n : Int) then c + t + 1 else (n : Int)) = x := ⟨_, rfl⟩
      rw [hx]
      have hx1 : c < x ∧ x ≤ (n : Int) := by rw [← hx]; split <;> omega
      have room : (r.length + [x].length) * 8 ≤ 140737488355328 := by simp; omega
      refine led_need room ?_
      exact led_k ⟨_, _, _, rfl, ⟨j + 1, by omega, by omega, by simp; omega, hR.snoc c0 hx1.1, by omega, hx1.2⟩, by omega⟩) 0 0 [] ⟨0, rfl, by omega, rfl, ⟨fun i j _ h => by simp at h, fun i h => by simp at h, rfl⟩, by omega, by omega⟩
  obtain ⟨z, hz, c, r, rfl, hr, hR, c0, c1⟩ := key
  have main : ∃ cs, cuts17.run' (n : Int) sizes = some (cs, ()) ∧ Cuts n cs ∧ cs.length ≤ 401 := by
    unfold cuts17.run'
    rw [hz]
    have room : (r.length + [(n : Int)].length) * 8 ≤ 140737488355328 := by simp; omega
    by_cases h : c < (n : Int)
    · have R := hR.snoc c0 h
      refine ⟨r ++ [(n : Int)], ?_, ⟨R.rise, R.pos, R.last⟩, by simp; omega⟩
      simp only [h, room, decide_true, if_true]
    · obtain rfl : c = (n : Int) := by omega
      refine ⟨r, ?_, ⟨hR.rise, hR.pos, hR.last⟩, by omega⟩
      simp only [h, decide_false, Bool.false_eq_true, if_false]
  obtain ⟨cs, h1, h2, h3⟩ := main
  obtain ⟨p1, p2⟩ := cuts17.is_fn _ _ h1
  have e : cutsBy n sizes = cs := by unfold cutsBy; rw [p2]
  rw [e]
  exact ⟨p1, p2, h2, h3⟩
theorem num17.is (e : Int) : num17.pre e = true ∧ num17.fn e = (e, ()) := num17.is_fn _ rfl
/-- The number of vertices, the pairs, the graph. -/
def shN' (n : Int) : Nat := (Int.tmod (Int.tmod n 400 + 400) 400).toNat
def shP (N : Nat) (pairs : List (Int × Int)) : List (Int × Int) := if 0 < N then (pairs.take 4000).map (fun p => (Int.tmod (Int.tmod p.1 N + N) N, Int.tmod (Int.tmod p.2 N + N) N)) else []
def shG (n : Int) (pairs : List (Int × Int)) : Gr := Gr.ofPairs (shN' n) (shP (shN' n) pairs)
theorem shN_le (n : Int) : shN' n ≤ 399 ∧ Int.tmod (IntKind.wrap .i64 (Int.tmod n 400 + 400)) 400 = (shN' n : Int) := by
  have t1 := tmod_in n (show (0 : Int) < 400 by omega)
  have w1 : IntKind.wrap .i64 (Int.tmod n 400 + 400) = Int.tmod n 400 + 400 := wr (by omega) (by omega)
  have t2 := tmod_in (Int.tmod n 400 + 400) (show (0 : Int) < 400 by omega)
  have t3 := Int.tmod_nonneg 400 (show 0 ≤ Int.tmod n 400 + 400 by omega)
  rw [w1]
  unfold shN'
  omega
theorem shP_ok {N : Nat} (hN : N ≤ 399) (pairs : List (Int × Int)) : (shP N pairs).length ≤ 4000 ∧ prsOk (N : Int) (shP N pairs) = true := by
  unfold shP
  by_cases h : 0 < N
  · rw [if_pos h]
    refine ⟨by simp; omega, ?_⟩
    unfold prsOk
    rw [List.all_eq_true]
    intro p hp
    obtain ⟨q, _, rfl⟩ := List.mem_map.1 hp
    have f : ∀ x : Int, 0 ≤ Int.tmod (Int.tmod x N + N) N ∧ Int.tmod (Int.tmod x N + N) N < N := fun x => by
      have t1 := tmod_in x (show (0 : Int) < N by omega)
      exact ⟨Int.tmod_nonneg _ (by omega), (tmod_in _ (show (0 : Int) < N by omega)).2⟩
    have f1 := f q.1
    have f2 := f q.2
    rw [Int.toNat_natCast]
    exact okP_iff.2 ⟨⟨by omega, by omega⟩, by omega, by omega⟩
  · rw [if_neg h]
    exact ⟨by simp, rfl⟩
theorem shG_ok (n : Int) (pairs : List (Int × Int)) : (shG n pairs).Ok ∧ (shG n pairs).n = shN' n ∧ shN' n ≤ 399 := by
  have h1 := (shN_le n).1
  refine ⟨ofPairs_ok (by omega) (fun p hp => ?_), rfl, h1⟩
  have := List.all_eq_true.1 (shP_ok h1 pairs).2 p hp
  rwa [Int.toNat_natCast] at this
theorem shape.is (n : Int) (pairs : List (Int × Int)) (sizes : List Int) : shape.pre n pairs sizes = true ∧ shape.fn n pairs sizes = (some (shG n pairs), some (cutsBy (shN' n) sizes), ()) := by
  obtain ⟨N, hN⟩ : ∃ N, N = shN' n := ⟨_, rfl⟩
  obtain ⟨n1, n2⟩ := shN_le n
  have hG : shG n pairs = Gr.ofPairs N (shP N pairs) := by unfold shG; rw [hN]
  rw [← hN] at n1 n2
  have key := shape.F4_inv (n0 := (N : Int)) (pairs1 := pairs) (sizes2 := sizes) (fun i r => ∃ j : Nat, i = (j : Int) ∧ j ≤ 4000 ∧ j ≤ pairs.length ∧ r = if 0 < N then (pairs.take j).map (fun p => (Int.tmod (Int.tmod p.1 N + N) N, Int.tmod (Int.tmod p.2 N + N) N)) else []) (fun i _ => 4000 - i.toNat)
    (fun z => z = (((N : Int), sizes, ()), (shP N pairs, ()))) (fun i r hI => by
      obtain ⟨j, rfl, hj, hjl, hr⟩ := hI
      unfold shape.R4
      refine led_dif (fun q1 => ?_) (fun q1 => led_x ?_)
      · refine led_dif (fun q2 => ?_) (fun q2 => led_x ?_)
        · refine led_dif (fun q3 => ?_) (fun q3 => led_x ?_)
          · have hN0 : 0 < N := by omega
            have hw : IntKind.wrap .i64 ((j : Int) + 1) = (j : Int) + 1 := wr (by omega) (by omega)
            have hz : ¬ ((N : Int) = 0) := by omega
            have a0 : (0 : Int) ≤ (j : Int) := by omega
            rw [if_pos hN0] at hr
            have t1 := tmod_in (pairs.getD j (0, 0)).1 (show (0 : Int) < N by omega)
            have t2 := tmod_in (pairs.getD j (0, 0)).2 (show (0 : Int) < N by omega)
            have w1 : IntKind.wrap .i64 (Int.tmod (pairs.getD j (0, 0)).1 N + N) = Int.tmod (pairs.getD j (0, 0)).1 N + N := wr (by omega) (by omega)
            have w2 : IntKind.wrap .i64 (Int.tmod (pairs.getD j (0, 0)).2 N + N) = Int.tmod (pairs.getD j (0, 0)).2 N + N := wr (by omega) (by omega)
            have hrl : r.length ≤ 4000 := by rw [hr]; simp; omega
            simp only [Int.toNat_natCast, hw, hz, a0, q1, w1, w2, if_true, if_false, List.length_singleton]
            have room : (r.length + 1) * 16 ≤ 140737488355328 := by omega
            refine led_need room (led_k ⟨_, _, rfl, ⟨j + 1, by omega, by omega, by omega, ?_⟩, by omega⟩)
            rw [if_pos hN0, take_snoc (0, 0) pairs j (by omega), List.map_append, hr]
            rfl
          · have hN0 : ¬ 0 < N := by omega
            rw [hr, if_neg hN0]
            unfold shP
            rw [if_neg hN0]
        · obtain rfl : j = 4000 := by omega
          rw [hr]
          rfl
      · obtain rfl : j = pairs.length := by omega
        rw [hr]
        unfold shP
        rw [take_all (Nat.le_refl _), take_all hj]) 0 [] ⟨0, rfl, by omega, by omega, by simp⟩
  obtain ⟨z, hz, rfl⟩ := key
  obtain ⟨p1, p2⟩ := shP_ok (N := N) n1 pairs
  obtain ⟨c1, c2, c3, c4⟩ := cuts17.is (n := N) (by omega) sizes
  obtain ⟨l1, l2⟩ := layNew.is c3 (by omega) (by omega)
  have hi : inN (N : Int) = true := by simp [inN]; omega
  refine shape.is_fn _ _ _ ?_
  unfold shape.run'
  rw [n2, hz, ← hN, hG]
  have M1 : Make.pre (N : Int) (shP N pairs) = true := rfl
  have M2 : Make.fn (N : Int) (shP N pairs) = (some (Gr.ofPairs N (shP N pairs)), 0, ()) := by
    unfold Make.fn
    rw [if_pos hi, if_pos p2, Int.toNat_natCast]
  simp only [M1, M2, c1, c2, l1, l2, (num17.is _).1, (num17.is _).2, if_true]
  simp
def degOf (G : Gr) : List Int := (List.range G.n).map (fun v => ((G.nb v).length : Int))
theorem degOf_len (G : Gr) : (degOf G).length = G.n := by simp [degOf]
theorem degOf_get {G : Gr} {v : Nat} (h : v < G.n) : (degOf G).getD v 0 = ((G.nb v).length : Int) := by
  unfold degOf
  rw [List.getD_eq_getElem?_getD, List.getElem?_map, List.getElem?_range h]
  rfl
theorem getD_out {α : Type} {d : α} {l : List α} {i : Nat} (h : l.length ≤ i) : l.getD i d = d := by
  rw [List.getD_eq_getElem?_getD, List.getElem?_eq_none h]
  rfl
theorem degrees17.is {G : Gr} (hG : G.Ok) : degrees17.pre (some G) = true ∧ degrees17.fn (some G) = (degOf G, ()) := by
  have hn := hG.small
  have key := degrees17.F3_inv (g0 := some G) (fun i r => ∃ j : Nat, i = (j : Int) ∧ j ≤ G.n ∧ r.length = G.n ∧ ∀ v, v < j → r.getD v 0 = ((G.nb v).length : Int)) (fun i _ => G.n - i.toNat)
    (fun z => z = ((), (degOf G, ()))) (fun i r hI => by
      obtain ⟨j, rfl, hj, hr, hv⟩ := hI
      unfold degrees17.R3
      refine led_need rfl ?_
      have eN : (N.fn (some G)).1 = (G.n : Int) := rfl
      rw [eN]
      refine led_dif (fun q1 => ?_) (fun q1 => led_x ?_)
      · have hw : IntKind.wrap .i64 ((j : Int) + 1) = (j : Int) + 1 := wr (by omega) (by omega)
        have eD : (Degree.fn (some G) (j : Int)).1 = ((G.nb j).length : Int) := by
          show (if 0 ≤ (j : Int) then (((gr (some G)).nb (j : Int).toNat).length : Int) else 0) = _
          rw [if_pos (by omega), Int.toNat_natCast]; rfl
        refine led_need rfl (led_need (by omega) (led_need (by omega) ?_))
        rw [eD, Int.toNat_natCast, hw]
        refine led_need (by omega) (led_k ⟨_, _, rfl, ⟨j + 1, by omega, by omega, by simpa using hr, fun v hvj => ?_⟩, by omega⟩)
        rw [getD_setP]
        by_cases e : j = v
        · subst e; rw [if_pos ⟨rfl, by omega⟩]
        · rw [if_neg (fun h => e h.1)]; exact hv v (by omega)
      · obtain rfl : j = G.n := by omega
        have : r = degOf G := Hx.list_ext_getD (by rw [hr, degOf_len]) (fun v h => by rw [hv v (by omega), degOf_get (by omega)])
        rw [this]) 0 (List.replicate G.n 0) ⟨0, rfl, by omega, by simp, fun v h => by omega⟩
  obtain ⟨z, hz, rfl⟩ := key
  refine degrees17.is_fn _ ?_
  unfold degrees17.run'
  have eN : (N.fn (some G)).1 = (G.n : Int) := rfl
  have b0 : (0 : Int) ≤ (G.n : Int) := by omega
  have b1 : G.n * 8 ≤ 140737488355328 := by omega
  rw [eN]
  simp only [show N.pre (some G) = true from rfl, b0, b1, Int.toNat_natCast, if_true, hz]
theorem sum_take {l : List Int} {j : Nat} (h : j < l.length) : Hx.sum (l.take (j + 1)) = Hx.sum (l.take j) + l.getD j 0 := by
  rw [take_snoc 0 l j h]
  unfold Hx.sum
  rw [List.foldr_append]
  simp only [List.foldr_cons, List.foldr_nil]
  generalize l.take j = t
  generalize l.getD j 0 = x
  induction t with
  | nil => simp
  | cons y t ih => simp only [List.foldr_cons] at ih ⊢; omega
theorem sum_range {l : List Int} (h : ∀ i, 0 ≤ l.getD i 0 ∧ l.getD i 0 ≤ 16777216) : ∀ j, j ≤ l.length → 0 ≤ Hx.sum (l.take j) ∧ Hx.sum (l.take j) ≤ j * 16777216
  | 0, _ => by simp [Hx.sum]
  | j + 1, hj => by
    have ih := sum_range h j (by omega)
    have := h j
    rw [sum_take (by omega)]
    omega
theorem sum17.is {l : List Int} (hl : l.length ≤ 16777216) (h : ∀ i, 0 ≤ l.getD i 0 ∧ l.getD i 0 ≤ 16777216) : sum17.pre l = true ∧ sum17.fn l = (Hx.sum l, ()) := by
  have key := sum17.F3_inv (l0 := l) (fun n i => ∃ j : Nat, i = (j : Int) ∧ j ≤ l.length ∧ n = Hx.sum (l.take j)) (fun _ i => l.length - i.toNat)
    (fun z => z = ((Hx.sum l, ()), ())) (fun n i hI => by
      obtain ⟨j, rfl, hj, rfl⟩ := hI
      unfold sum17.R3
      refine led_dif (fun q1 => ?_) (fun q1 => led_x ?_)
      · have hw : IntKind.wrap .i64 ((j : Int) + 1) = (j : Int) + 1 := wr (by omega) (by omega)
        have hs := sum_range h j hj
        have hx := h j
        have hw2 : IntKind.wrap .i64 (Hx.sum (l.take j) + l.getD j 0) = Hx.sum (l.take j) + l.getD j 0 := wr (by omega) (by omega)
        refine led_need (by omega) (led_need q1 ?_)
        rw [Int.toNat_natCast, hw, hw2]
        exact led_k ⟨_, _, rfl, ⟨j + 1, by omega, by omega, (sum_take (by omega)).symm⟩, by omega⟩
      · obtain rfl : j = l.length := by omega
        rw [take_all (Nat.le_refl _)]) 0 0 ⟨0, rfl, by omega, by simp [Hx.sum]⟩
  obtain ⟨z, hz, rfl⟩ := key
  refine sum17.is_fn _ ?_
  unfold sum17.run'
  rw [hz]
end Go.Proofs.YthbojpaghbbnnaaDoor.Z
namespace Go.Proofs.YthbojpaghbbnnaaDoor.Z
open Go Go.RowKit Esx
set_option linter.unusedVariables false
set_option linter.unusedSimpArgs false
abbrev Ws := List Int × Int × List Int
def markW (cs : List Int) (ts : List Int) (v s : Nat) (bd : List Int) (h old : Int) (dr : List Int) : List Int := ts.foldl (fun dr u => if cross cs v s bd h old u = true then setBit dr (shN cs u) else dr) dr
def rStepW (cs : List Int) (s : Nat) (st : Ws) (x : Int × List Int) : Ws :=
  if Hx.hOf (Hx.vals x.2 st.1) (st.1.getD x.1.toNat 0) ≥ st.1.getD x.1.toNat 0 then st
  else (st.1.set x.1.toNat (Hx.hOf (Hx.vals x.2 st.1) (st.1.getD x.1.toNat 0)), st.2.1 + 1, markW cs x.2 x.1.toNat s (st.1.set x.1.toNat (Hx.hOf (Hx.vals x.2 st.1) (st.1.getD x.1.toNat 0))) (Hx.hOf (Hx.vals x.2 st.1) (st.1.getD x.1.toNat 0)) (st.1.getD x.1.toNat 0) st.2.2)
def readW (cs : List Int) (s : Nat) (ls : List (Int × List Int)) (st : Ws) : Ws := ls.foldl (rStepW cs s) st
theorem readW_take {cs : List Int} {s : Nat} {ls : List (Int × List Int)} {st : Ws} {i : Nat} (h : i < ls.length) : readW cs s (ls.take (i + 1)) st = rStepW cs s (readW cs s (ls.take i) st) (ls.getD i (0, [])) := by
  unfold readW
  rw [List.take_succ_eq_append_getElem h, List.foldl_append, List.getD_eq_getElem?_getD, List.getElem?_eq_getElem h]
  rfl
/-- Words of flags for so many shards. -/
structure Wn (m : Nat) (dr : List Int) : Prop where
  w : W64 dr
  len : dr.length = m / 64 + 1
theorem Wn.lt {m : Nat} {dr : List Int} (h : Wn m dr) {s : Nat} (hs : s ≤ m) : s < 64 * dr.length := by rw [h.len]; omega
theorem Wn.setBit {m : Nat} {dr : List Int} (h : Wn m dr) (s : Nat) : Wn m (setBit dr s) := ⟨h.w.setBit s, by rw [setBit_len, h.len]⟩
theorem Wn.clrBit {m : Nat} {dr : List Int} (h : Wn m dr) (s : Nat) : Wn m (clrBit dr s) := ⟨h.w.clrBit s, by rw [clrBit_len, h.len]⟩
theorem bit_setF {m : Nat} {dr : List Int} (h : Wn m dr) {s : Nat} (hs : s ≤ m) : bitAt (setBit dr s) = fun t => bitAt dr t || decide (t = s) := funext fun t => bit_set (h.lt hs)
theorem bit_clrF {m : Nat} {dr : List Int} (h : Wn m dr) {s : Nat} (hs : s ≤ m) : bitAt (clrBit dr s) = clrF (bitAt dr) s := funext fun t => bit_clr (h.lt hs)
theorem markW_ok (cs : List Int) (v s : Nat) (bd : List Int) (h old : Int) {m : Nat} : ∀ (ts : List Int) {dr : List Int}, Wn m dr → (∀ u ∈ ts, shN cs u ≤ m) → Wn m (markW cs ts v s bd h old dr) ∧ bitAt (markW cs ts v s bd h old dr) = markF cs ts v s bd h old (bitAt dr)
  | [], dr, hw, _ => ⟨hw, funext fun t => by unfold markW markF; simp⟩
  | u :: ts, dr, hw, hu => by
    have h1 : Wn m (if cross cs v s bd h old u = true then setBit dr (shN cs u) else dr) := by
      split
      · exact hw.setBit _
      · exact hw
    obtain ⟨g1, g2⟩ := markW_ok cs v s bd h old ts h1 (fun x hx => hu x (List.mem_cons_of_mem _ hx))
    refine ⟨g1, g2.trans (funext fun t => ?_)⟩
    unfold markF
    rw [List.any_cons]
    by_cases c : cross cs v s bd h old u = true
    · rw [if_pos c, bit_setF hw (hu u List.mem_cons_self), c]
      simp only [Bool.true_and]
      by_cases e : t = shN cs u
      · simp [e]
      · have e' : ¬ shN cs u = t := fun k => e k.symm
        simp [e, e']
    · rw [if_neg c]
      have c' : cross cs v s bd h old u = false := by simpa using c
      rw [c', Bool.false_and, Bool.false_or]
theorem rStepW_ok {cs : List Int} {s m : Nat} {bd : List Int} {f : Int} {dr : List Int} {x : Int × List Int} (hw : Wn m dr) (hx : ∀ u ∈ x.2, shN cs u ≤ m) :
    Wn m (rStepW cs s (bd, f, dr) x).2.2 ∧ ((rStepW cs s (bd, f, dr) x).1, (rStepW cs s (bd, f, dr) x).2.1, bitAt (rStepW cs s (bd, f, dr) x).2.2) = rList cs s (bd, f, bitAt dr) x := by
  unfold rStepW rList rStep
  simp only
  split
  · exact ⟨hw, rfl⟩
  · obtain ⟨g1, g2⟩ := markW_ok cs x.1.toNat s (bd.set x.1.toNat (Hx.hOf (Hx.vals x.2 bd) (bd.getD x.1.toNat 0))) (Hx.hOf (Hx.vals x.2 bd) (bd.getD x.1.toNat 0)) (bd.getD x.1.toNat 0) x.2 hw hx
    refine ⟨g1, ?_⟩
    simp only [g2]
theorem readW_ok {cs : List Int} {s m : Nat} : ∀ (ls : List (Int × List Int)) {bd : List Int} {f : Int} {dr : List Int}, Wn m dr → (∀ x ∈ ls, ∀ u ∈ x.2, shN cs u ≤ m) →
    Wn m (readW cs s ls (bd, f, dr)).2.2 ∧ ((readW cs s ls (bd, f, dr)).1, (readW cs s ls (bd, f, dr)).2.1, bitAt (readW cs s ls (bd, f, dr)).2.2) = readL cs s ls (bd, f, bitAt dr)
  | [], bd, f, dr, hw, _ => ⟨hw, rfl⟩
  | x :: ls, bd, f, dr, hw, hx => by
    obtain ⟨g1, g2⟩ := rStepW_ok (cs := cs) (s := s) (bd := bd) (f := f) hw (hx x List.mem_cons_self)
    have ih := readW_ok (cs := cs) (s := s) ls (bd := (rStepW cs s (bd, f, dr) x).1) (f := (rStepW cs s (bd, f, dr) x).2.1) g1 (fun y hy => hx y (List.mem_cons_of_mem _ hy))
    unfold readL at ih ⊢
    rw [List.foldl_cons, ← g2]
    exact ih
/-- Numbers stay between 0 and what they were. -/
structure Bds (n : Nat) (b0 b : List Int) : Prop where
  len : b.length = n
  lo : ∀ j, 0 ≤ b.getD j 0
  hi : ∀ j, b.getD j 0 ≤ b0.getD j 0
theorem rStepW_bds {cs : List Int} {s n : Nat} {b0 : List Int} {st : Ws} {x : Int × List Int} (h : Bds n b0 st.1) : Bds n b0 (rStepW cs s st x).1 := by
  unfold rStepW
  split
  · exact h
  · rename_i hlt
    refine ⟨by simpa using h.len, fun j => ?_, fun j => ?_⟩
    · simp only
      rw [Hx.getD_set]
      split
      · exact Hx.hOf_nonneg _ _
      · exact h.lo j
    · simp only
      rw [Hx.getD_set]
      split
      · rename_i e
        have e1 := e.1
        have := h.hi j
        rw [e1] at hlt ⊢
        omega
      · exact h.hi j
theorem readW_bds {cs : List Int} {s n : Nat} {b0 : List Int} : ∀ (ls : List (Int × List Int)) {st : Ws}, Bds n b0 st.1 → Bds n b0 (readW cs s ls st).1
  | [], _, h => h
  | x :: ls, st, h => by
    have := readW_bds (cs := cs) (s := s) ls (rStepW_bds (cs := cs) (s := s) (x := x) h)
    unfold readW at this ⊢
    rw [List.foldl_cons]
    exact this
theorem rStepW_falls (cs : List Int) (s : Nat) (st : Ws) (x : Int × List Int) : st.2.1 ≤ (rStepW cs s st x).2.1 ∧ (rStepW cs s st x).2.1 ≤ st.2.1 + 1 := by
  unfold rStepW
  split
  · omega
  · simp only; omega
theorem readW_falls (cs : List Int) (s : Nat) : ∀ (ls : List (Int × List Int)) (st : Ws), st.2.1 ≤ (readW cs s ls st).2.1 ∧ (readW cs s ls st).2.1 ≤ st.2.1 + ls.length
  | [], st => by
    show st.2.1 ≤ st.2.1 ∧ st.2.1 ≤ st.2.1 + (0 : Nat)
    omega
  | x :: ls, st => by
    have := readW_falls cs s ls (rStepW cs s st x)
    have := rStepW_falls cs s st x
    unfold readW at *
    rw [List.foldl_cons, List.length_cons]
    omega
end Go.Proofs.YthbojpaghbbnnaaDoor.Z
namespace Go.Proofs.YthbojpaghbbnnaaDoor.Z
open Go Go.RowKit Esx
set_option linter.unusedVariables false
set_option linter.unusedSimpArgs false
theorem rowB_mem {n v : Int} : ∀ (l : List Int) {last : Int}, -1 ≤ last → rowB n v last l = true → ∀ u ∈ l, 0 ≤ u ∧ u < n ∧ u ≠ v
  | [], _, _, _, u, hu => by cases hu
  | x :: l, last, h0, h, u, hu => by
    simp only [rowB, Bool.and_eq_true, decide_eq_true_eq] at h
    obtain ⟨⟨⟨h1, h2⟩, h3⟩, h4⟩ := h
    rcases List.mem_cons.1 hu with rfl | hu
    · exact ⟨by omega, h2, h3⟩
    · exact rowB_mem l (by omega) h4 u hu
theorem fitsB_mem {dg : List Int} {n : Int} : ∀ (vs : List Nat) (ls : List (Int × List Int)), fitsB dg n vs ls = true → ls.length ≤ vs.length ∧ ∀ x ∈ ls, (∃ v ∈ vs, x.1 = (v : Int) ∧ (x.2.length : Int) = dg.getD v 0) ∧ ∀ u ∈ x.2, 0 ≤ u ∧ u < n
  | [], ls, h => by
    simp only [fitsB, List.isEmpty_iff] at h
    subst h
    exact ⟨Nat.le_refl _, fun x hx => by cases hx⟩
  | v :: vs, ls, h => by
    simp only [fitsB] at h
    by_cases h0 : dg.getD v 0 = 0
    · rw [if_pos h0] at h
      obtain ⟨g1, g2⟩ := fitsB_mem vs ls h
      refine ⟨by simp; omega, fun x hx => ?_⟩
      obtain ⟨⟨w, hw, e⟩, g3⟩ := g2 x hx
      exact ⟨⟨w, List.mem_cons_of_mem _ hw, e⟩, g3⟩
    · rw [if_neg h0] at h
      cases ls with
      | nil => cases h
      | cons y ls =>
        simp only [Bool.and_eq_true, decide_eq_true_eq] at h
        obtain ⟨⟨⟨h1, h2⟩, h3⟩, h4⟩ := h
        obtain ⟨g1, g2⟩ := fitsB_mem vs ls h4
        refine ⟨by simp; omega, fun x hx => ?_⟩
        rcases List.mem_cons.1 hx with rfl | hx
        · exact ⟨⟨v, List.mem_cons_self, h1, h2⟩, fun u hu => by
            have := rowB_mem _ (Int.le_refl _) h3 u hu
            exact ⟨this.1, this.2.1⟩⟩
        · obtain ⟨⟨w, hw, e⟩, g3⟩ := g2 x hx
          exact ⟨⟨w, List.mem_cons_of_mem _ hw, e⟩, g3⟩
theorem rowB_of {n v : Int} : ∀ (l : List Int) {last : Int}, (last :: l).Pairwise (· < ·) → (∀ u ∈ l, u < n ∧ u ≠ v) → rowB n v last l = true
  | [], _, _, _ => rfl
  | x :: l, last, h, k => by
    obtain ⟨h1, h2⟩ := List.pairwise_cons.1 h
    simp only [rowB]
    rw [decide_eq_true (h1 x List.mem_cons_self), decide_eq_true (k x List.mem_cons_self).1, decide_eq_true (k x List.mem_cons_self).2, rowB_of l h2 (fun u hu => k u (List.mem_cons_of_mem _ hu))]
    rfl
theorem fitsB_lists {dg : List Int} {n : Nat} {nbs : Nat → List Int} (hN : Hx.Nbs n nbs) (hs : ∀ v, v < n → (nbs v).Pairwise (· < ·)) (hd : ∀ v, v < n → dg.getD v 0 = ((nbs v).length : Int)) : ∀ vs : List Nat, (∀ v ∈ vs, v < n) → fitsB dg n vs (listsV nbs vs) = true
  | [], _ => rfl
  | v :: vs, h => by
    have hv := h v List.mem_cons_self
    have ih := fitsB_lists hN hs hd vs (fun x hx => h x (List.mem_cons_of_mem _ hx))
    have hdv := hd v hv
    simp only [fitsB]
    by_cases h0 : 0 < (nbs v).length
    · have e : listsV nbs (v :: vs) = ((v : Int), nbs v) :: listsV nbs vs := by
        unfold listsV
        rw [List.filter_cons, if_pos (by simpa using h0)]
        rfl
      rw [if_neg (by omega), e]
      simp only
      simp only [ih, hdv, decide_true, Bool.true_and, Bool.and_true]
      exact rowB_of (nbs v) (List.pairwise_cons.2 ⟨fun u hu => by have := hN.rng v hv u hu; omega, hs v hv⟩) (fun u hu => ⟨(hN.rng v hv u hu).2, fun e => hN.irr v hv (e ▸ hu)⟩)
    · have e : listsV nbs (v :: vs) = listsV nbs vs := by
        unfold listsV
        rw [List.filter_cons, if_neg (by simpa using h0)]
      rw [if_pos (by omega), e]
      exact ih
/-- The lists that a graph tells of the vertices from lo to hi - 1. -/
theorem lists_is (G : Gr) {lo hi : Nat} (h : lo ≤ hi) (hn : hi ≤ G.n) : upL (G.lists (lo : Int) (hi : Int)) = listsV (fun v => up (G.nb v)) (List.range' lo (hi - lo)) := by
  have e : seg G.n (lo : Int) (hi : Int) = List.range' lo (hi - lo) := by
    unfold seg
    rw [show segL G.n (lo : Int) (hi : Int) = hi - lo by unfold segL; omega, show segF (lo : Int) = lo by unfold segF; omega]
    refine List.ext_getElem (by simp) (fun i h1 h2 => ?_)
    simp
  unfold upL Gr.lists listsV
  rw [e, List.map_map]
  have : (fun v => decide (0 < (up (G.nb v)).length)) = (fun u => decide (0 < (G.nb u).length)) := funext fun v => by rw [up_length]
  rw [this]
  rfl
theorem nb_sorted (G : Gr) (v : Nat) : (up (G.nb v)).Pairwise (· < ·) := by
  unfold up Gr.nb
  rw [List.pairwise_map]
  refine List.Pairwise.imp (R := (· < ·)) (fun h => by omega) (List.Pairwise.filter _ ?_)
  exact List.pairwise_lt_range
end Go.Proofs.YthbojpaghbbnnaaDoor.Z
namespace Go.Proofs.YthbojpaghbbnnaaDoor.Z
open Go Go.RowKit Esx
set_option linter.unusedVariables false
set_option linter.unusedSimpArgs false
def zeroW (m : Nat) : List Int := List.replicate (m / 64 + 1) 0
theorem zeroW_get (m i : Nat) : (zeroW m).getD i 0 = 0 := by
  unfold zeroW
  rw [List.getD_eq_getElem?_getD, List.getElem?_replicate]
  split <;> rfl
theorem zeroW_ok (m : Nat) : Wn m (zeroW m) := ⟨fun i => by rw [zeroW_get]; decide, by simp [zeroW]⟩
theorem zeroW_bit (m t : Nat) : bitAt (zeroW m) t = false := by
  unfold bitAt
  rw [zeroW_get]
  exact Nat.zero_testBit _
/-- Marks, one after another: of those that f says, at g. -/
def marks (f : Nat → Bool) (g : Nat → Nat) (k : Nat) (dr : List Int) : List Int := (List.range k).foldl (fun dr v => if f v = true then setBit dr (g v) else dr) dr
theorem marks_succ (f : Nat → Bool) (g : Nat → Nat) (k : Nat) (dr : List Int) : marks f g (k + 1) dr = if f k = true then setBit (marks f g k dr) (g k) else marks f g k dr := by
  unfold marks
  rw [List.range_succ, List.foldl_append]
  rfl
theorem marks_ok {f : Nat → Bool} {g : Nat → Nat} {m : Nat} {dr : List Int} (h : Wn m dr) : ∀ k, (∀ v, v < k → g v ≤ m) → Wn m (marks f g k dr) ∧ ∀ t, bitAt (marks f g k dr) t = true ↔ (bitAt dr t = true ∨ ∃ v, v < k ∧ f v = true ∧ g v = t)
  | 0, _ => ⟨h, fun t => ⟨fun q => .inl q, fun q => q.elim id (fun ⟨v, hv, _⟩ => absurd hv (Nat.not_lt_zero v))⟩⟩
  | k + 1, hg => by
    obtain ⟨h1, h2⟩ := marks_ok (f := f) h k (fun v hv => hg v (by omega))
    rw [marks_succ]
    by_cases c : f k = true
    · rw [if_pos c]
      refine ⟨h1.setBit _, fun t => ?_⟩
      rw [bit_setF h1 (hg k (by omega))]
      simp only [Bool.or_eq_true, decide_eq_true_eq]
      rw [h2]
      constructor
      · rintro ((q | ⟨v, q1, q2, q3⟩) | q)
        · exact .inl q
        · exact .inr ⟨v, by omega, q2, q3⟩
        · exact .inr ⟨k, by omega, c, q.symm⟩
      · rintro (q | ⟨v, q1, q2, q3⟩)
        · exact .inl (.inl q)
        · by_cases e : v = k
          · subst e; exact .inr q3.symm
          · exact .inl (.inr ⟨v, by omega, q2, q3⟩)
    · rw [if_neg c]
      refine ⟨h1, fun t => ?_⟩
      rw [h2]
      constructor
      · rintro (q | ⟨v, q1, q2, q3⟩)
        · exact .inl q
        · exact .inr ⟨v, by omega, q2, q3⟩
      · rintro (q | ⟨v, q1, q2, q3⟩)
        · exact .inl q
        · by_cases e : v = k
          · subst e; exact absurd q2 c
          · exact .inr ⟨v, by omega, q2, q3⟩
/-- The flags of a search that begins with these degrees. -/
def newW (cs dg : List Int) : List Int := marks (fun v => decide (dg.getD v 0 > 0)) (fun v => shN cs (v : Nat)) dg.length (zeroW cs.length)
/-- The flags of a search that goes on from these. -/
def fromW (m : Nat) (fl : List Bool) : List Int := marks (fun v => fl.getD v false) (fun v => v) fl.length (zeroW m)
theorem newW_ok {n : Nat} {cs dg : List Int} (hC : Cuts n cs) (hd : dg.length = n) : Wn cs.length (newW cs dg) ∧ ∀ t, bitAt (newW cs dg) t = true ↔ ∃ v, v < n ∧ 0 < dg.getD v 0 ∧ shN cs (v : Nat) = t := by
  obtain ⟨h1, h2⟩ := marks_ok (f := fun v => decide (dg.getD v 0 > 0)) (g := fun v => shN cs (v : Nat)) (zeroW_ok cs.length) dg.length (fun v hv => Nat.le_of_lt (sh_at hC (by omega) (by omega)).1)
  refine ⟨h1, fun t => (h2 t).trans ?_⟩
  rw [zeroW_bit, hd]
  simp
theorem newW_in {n : Nat} {cs dg : List Int} (hC : Cuts n cs) (hd : dg.length = n) : In cs (bitAt (newW cs dg)) := fun t ht => by
  cases hb : bitAt (newW cs dg) t with
  | false => rfl
  | true =>
    obtain ⟨v, hv, _, e⟩ := ((newW_ok hC hd).2 t).1 hb
    have := (sh_at hC (v := (v : Int)) (by omega) (by omega)).1
    omega
theorem fromW_ok {m : Nat} {fl : List Bool} (hl : fl.length = m) : Wn m (fromW m fl) ∧ ∀ t, bitAt (fromW m fl) t = fl.getD t false := by
  obtain ⟨h1, h2⟩ := marks_ok (f := fun v => fl.getD v false) (g := fun v => v) (zeroW_ok m) fl.length (fun v hv => by omega)
  refine ⟨h1, fun t => ?_⟩
  rw [Bool.eq_iff_iff]
  refine (h2 t).trans ?_
  rw [zeroW_bit]
  constructor
  · rintro (q | ⟨v, _, q2, q3⟩)
    · cases q
    · rw [← q3]; exact q2
  · intro q
    refine .inr ⟨t, Nat.not_le.1 fun k => ?_, q, rfl⟩
    rw [List.getD_eq_getElem?_getD, List.getElem?_eq_none k] at q
    cases q
end Go.Proofs.YthbojpaghbbnnaaDoor.Z
namespace Go.Proofs.YthbojpaghbbnnaaDoor.Z
open Go Go.RowKit Esx
set_option linter.unusedVariables false
set_option linter.unusedSimpArgs false
theorem degOf_nonneg (G : Gr) (j : Nat) : 0 ≤ (degOf G).getD j 0 := by
  by_cases h : j < G.n
  · rw [degOf_get h]; omega
  · rw [getD_out (by rw [degOf_len]; omega)]; decide
theorem cores_G {G : Gr} (hG : G.Ok) : Hx.IsCores G.n (nbsOf G) (coresOf G) := by
  obtain ⟨r, fs, h⟩ := Hx.runs_ex (nbs := nbsOf G) (degOf_len G) (degOf_nonneg G)
  have L := h.left (nbs_G hG) (degOf_len G) (degOf_nonneg G)
  have hc := L.isCores (nbs_G hG) (fun j hj => by rw [degOf_get hj, up_length]; exact Int.le_refl _)
  rw [coresOf_is hc]
  exact hc
theorem edges_pos {G : Gr} (hG : G.Ok) : 0 < G.edges ↔ ∃ v, v < G.n ∧ 0 < (nbsOf G v).length := by
  unfold Gr.edges
  constructor
  · intro h
    obtain ⟨⟨u, v⟩, hp⟩ := List.exists_mem_of_length_pos h
    have := (Gr.mem_pairs hG).1 hp
    refine ⟨u, hG.rng _ _ this.2, ?_⟩
    rw [up_length]
    exact List.length_pos_of_mem ((Gr.mem_nb hG).2 this.2)
  · rintro ⟨v, hv, h⟩
    rw [up_length] at h
    obtain ⟨u, hu⟩ := List.exists_mem_of_length_pos h
    have ha := (Gr.mem_nb hG).1 hu
    rcases Nat.lt_trichotomy u v with e | e | e
    · exact List.length_pos_of_mem ((Gr.mem_pairs hG).2 ⟨e, by rw [hG.symm]; exact ha⟩)
    · subst e
      rw [hG.irr] at ha; cases ha
    · exact List.length_pos_of_mem ((Gr.mem_pairs hG).2 ⟨e, ha⟩)
/-- Is a flag up? -/
def dirtyW (dr : List Int) : Bool := decide (¬ leastN dr 0 < 0)
theorem dirtyW_iff (dr : List Int) : dirtyW dr = true ↔ ∃ t, bitAt dr t = true := by
  unfold dirtyW
  rw [decide_eq_true_eq]
  rcases least_cases dr 0 with ⟨h1, h2⟩ | ⟨s, h1, h2⟩
  · rw [h1]
    constructor
    · intro h; exact absurd (by decide) h
    · rintro ⟨t, ht⟩
      rw [h2 t (Nat.zero_le _)] at ht; cases ht
  · rw [h1]
    exact ⟨fun _ => ⟨s, h2.bit⟩, fun _ => by omega⟩
/-- A search between two passes: numbers bd, flags dr. -/
structure Idle (G : Gr) (cs bd dr : List Int) : Prop where
  ok : G.Ok
  small : G.n ≤ 400
  cuts : Cuts G.n cs
  len : cs.length ≤ 401
  wn : Wn cs.length dr
  good : Gd17 G.n (nbsOf G) cs (bd, 0, bitAt dr)
  deg : ∀ v : Nat, bd.getD v 0 ≤ ((nbsOf G v).length : Int)
theorem Idle.blen {G : Gr} {cs bd dr : List Int} (h : Idle G cs bd dr) : bd.length = G.n := h.good.len
theorem Idle.nonneg {G : Gr} {cs bd dr : List Int} (h : Idle G cs bd dr) (j : Nat) : 0 ≤ bd.getD j 0 := h.good.nonneg j
theorem nb_le (G : Gr) (v : Nat) : (nbsOf G v).length ≤ G.n := by rw [up_length]; exact G.nb_length_le v
theorem Idle.le {G : Gr} {cs bd dr : List Int} (h : Idle G cs bd dr) (j : Nat) : bd.getD j 0 ≤ 400 := by
  have := h.deg j
  have := nb_le G j
  have := h.small
  omega
theorem Idle.wds {G : Gr} {cs bd dr : List Int} (h : Idle G cs bd dr) : Wds dr := ⟨h.wn.w, by have := h.wn.len; have := h.len; omega⟩
theorem Wn.wds {m : Nat} {dr : List Int} (h : Wn m dr) (hm : m ≤ 4194240) : Wds dr := ⟨h.w, by have := h.len; omega⟩
/-- A search that begins with numbers between 0 and the degrees, in which whoever has an arc is in a dirty shard. -/
theorem Idle.start {G : Gr} (hG : G.Ok) (hn : G.n ≤ 400) {cs : List Int} (hC : Cuts G.n cs) (hl : cs.length ≤ 401) {bd dr : List Int} (hb : bd.length = G.n) (h0 : ∀ j, 0 ≤ bd.getD j 0) (hd : ∀ v : Nat, bd.getD v 0 ≤ ((nbsOf G v).length : Int)) (hw : Wn cs.length dr) (hin : In cs (bitAt dr)) (h : ∀ v, v < G.n → 0 < (nbsOf G v).length → bitAt dr (shN cs (v : Nat)) = true) : Idle G cs bd dr :=
  ⟨hG, hn, hC, hl, hw, Gd17.start hb h0 (fun v _ => hd v) hin h, hd⟩
theorem Idle.new {G : Gr} (hG : G.Ok) (hn : G.n ≤ 400) {cs : List Int} (hC : Cuts G.n cs) (hl : cs.length ≤ 401) : Idle G cs (degOf G) (newW cs (degOf G)) ∧ (dirtyW (newW cs (degOf G)) = true ↔ 0 < G.edges) := by
  obtain ⟨h1, h2⟩ := newW_ok hC (degOf_len G)
  have hdeg : ∀ v, v < G.n → (degOf G).getD v 0 = ((nbsOf G v).length : Int) := fun v hv => by rw [degOf_get hv, up_length]
  refine ⟨Idle.start hG hn hC hl (degOf_len G) (degOf_nonneg G) (fun v => ?_) h1 (newW_in hC (degOf_len G)) (fun v hv hp => (h2 _).2 ⟨v, hv, by rw [hdeg v hv]; omega, rfl⟩), ?_⟩
  · by_cases h : v < G.n
    · rw [hdeg v h]; exact Int.le_refl _
    · rw [getD_out (by rw [degOf_len]; omega)]; omega
  · rw [dirtyW_iff, edges_pos hG]
    constructor
    · rintro ⟨t, ht⟩
      obtain ⟨v, hv, hp, _⟩ := (h2 t).1 ht
      rw [hdeg v hv] at hp
      exact ⟨v, hv, by omega⟩
    · rintro ⟨v, hv, hp⟩
      exact ⟨_, (h2 _).2 ⟨v, hv, by rw [hdeg v hv]; omega, rfl⟩⟩
theorem Idle.clean {G : Gr} {cs bd dr : List Int} (h : Idle G cs bd dr) (hd : dirtyW dr = false) : ∀ v, v < G.n → Hx.Stable (nbsOf G) bd v := fun v hv => by
  refine Classical.byContradiction fun hs => ?_
  have h1 := h.good.call v hv hs
  have := (dirtyW_iff dr).2 ⟨_, h1⟩
  rw [hd] at this; cases this
theorem Idle.rest {G : Gr} {cs bd dr : List Int} (h : Idle G cs bd dr) : ∃ (r fs : List Int), Rst17 G.n (nbsOf G) (dirtyW dr) bd (if dirtyW dr = true then fs.length else 0) r ∧ Hx.Left (nbsOf G) G.n bd r fs :=
  rest_ex (nbs_G h.ok) (dirtyW dr) h.blen h.nonneg (fun hd => h.clean hd)
/-- Behind a pass. -/
theorem Idle.pass {G : Gr} {cs bd dr : List Int} (h : Idle G cs bd dr) {l : List Nat} {bd' dr' : List Int} {f : Int} (hw : Wn cs.length dr') (hp : Pass (nbsOf G) cs 0 (bd, 0, bitAt dr) l (bd', f, bitAt dr')) :
    Idle G cs bd' dr' ∧ bd' = (Hx.sweepTo (nbsOf G) bd G.n).1 ∧ f = (Hx.sweepTo (nbsOf G) bd G.n).2.1 ∧ dirtyW dr' = (Hx.sweepTo (nbsOf G) bd G.n).2.2 ∧ l.Pairwise (· < ·) ∧ (∀ s ∈ l, s < cs.length) ∧ l.length ≤ cs.length := by
  obtain ⟨h1, h2, h3, h4, h5, h6, h7⟩ := pass_is (nbs_G h.ok) h.cuts h.good hp
  have h2 : bd' = (Hx.sweepTo (nbsOf G) bd G.n).1 := h2
  refine ⟨⟨h.ok, h.small, h.cuts, h.len, hw, ⟨h1.len, h1.nonneg, h1.inn, h1.call⟩, fun v => ?_⟩, h2, h3, ?_, h5, h6, h7⟩
  · have := Hx.sweepTo_le (nbsOf G) bd G.n (by rw [h.blen]; exact Nat.le_refl _) v
    have := h.deg v
    rw [h2]
    omega
  · rw [Bool.eq_iff_iff, dirtyW_iff, ← h4]
    constructor
    · rintro ⟨t, ht⟩
      refine ⟨t, Nat.not_le.1 fun k => ?_, ht⟩
      have := h1.inn t k
      have ht' : bitAt dr' t = true := ht
      have this' : bitAt dr' t = false := this
      rw [ht'] at this'; cases this'
    · rintro ⟨t, _, ht⟩
      exact ⟨t, ht⟩
theorem sum_mono : ∀ {a b : List Int}, a.length = b.length → (∀ i, a.getD i 0 ≤ b.getD i 0) → Hx.sum a ≤ Hx.sum b
  | [], [], _, _ => Int.le_refl _
  | [], _ :: _, h, _ => by cases h
  | _ :: _, [], h, _ => by cases h
  | x :: a, y :: b, h, k => by
    have h0 := k 0
    have ih := sum_mono (a := a) (b := b) (by simpa using h) (fun i => by simpa using k (i + 1))
    simp only [List.getD_cons_zero] at h0
    simp only [Hx.sum, List.foldr_cons] at ih ⊢
    omega
end Go.Proofs.YthbojpaghbbnnaaDoor.Z
namespace Go.Proofs.YthbojpaghbbnnaaDoor.Z
open Go Go.RowKit Esx
set_option linter.unusedVariables false
set_option linter.unusedSimpArgs false
theorem bothK_same {R : Type} (x : Option R) : bothK x x = x := bothK_of rfl rfl
theorem begun.is {cs : List Int} (hl : cs.length ≤ 65536) {dg bd : List Int} (hd : dg.length ≤ 1048576) (hb : bd.length ≤ 1048576) :
    begun.pre (some cs) dg bd = true ∧ begun.fn (some cs) dg bd = (some (some cs, dg, bd, zeroW cs.length, 0, false, 0, -1, [], false), ()) := by
  have hS : Shards.pre (some cs) = true ∧ Shards.fn (some cs) = ((cs.length : Int), ()) := Shards.is_fn _ rfl
  have p1 : CloneI.pre dg = true := decide_eq_true (by omega)
  have p2 : CloneI.pre bd = true := decide_eq_true (by omega)
  refine begun.is_fn _ _ _ ?_
  unfold begun.run'
  have e1 : IntKind.wrap .i64 (IntKind.wrap .i64 (Int.tdiv (cs.length : Int) 64) + 1) = ((cs.length / 64 + 1 : Nat) : Int) := by
    rw [tdiv64 _ (by omega), wr (by omega) (by omega)]
    push_cast
    rfl
  have e2 : (0 : Int) ≤ ((cs.length / 64 + 1 : Nat) : Int) := by omega
  have e3 : (cs.length / 64 + 1) * 8 ≤ 140737488355328 := by omega
  rw [hS.2]
  simp only [p1, p2, hS.1, e1, e2, e3, Int.toNat_natCast, if_true]
  rfl
theorem Shard.is {n : Nat} {cs : List Int} (hC : Cuts n cs) (hl : cs.length ≤ 65536) {v : Int} (h0 : 0 ≤ v) (hn : v < n) : Shard.pre (some cs) v = true ∧ Shard.fn (some cs) v = ((shN cs v : Int), ()) := by
  refine ⟨?_, ?_⟩
  · unfold Shard.pre
    exact and_need (and_need rfl (rises_iff.2 hC.rise)) (decide_eq_true (by show cs.length ≤ 4294967296; omega))
  · have hlast := hC.last
    have hk : 0 < cs.length := Nat.pos_of_ne_zero fun e => by
      rw [e] at hlast
      simp only [lowC] at hlast
      omega
    have e : cs.getD (cs.length - 1) 0 = (n : Int) := by
      rw [← hlast]
      obtain ⟨j, hj⟩ : ∃ j, cs.length = j + 1 := ⟨cs.length - 1, by omega⟩
      rw [hj]
      rfl
    show (shardOf cs v, ()) = _
    unfold shardOf
    rw [e, if_pos ⟨h0, hn⟩]
    rfl
theorem NewE.is {n : Nat} {cs : List Int} (hC : Cuts n cs) (hl : cs.length ≤ 65536) {dg : List Int} (hd : dg.length ≤ 1048576) :
    NewE.pre (some cs) dg = true ∧ NewE.fn (some cs) dg = if mayB n dg = true then (some (some cs, dg, dg, newW cs dg, 0, false, 0, -1, [], false), 0, ()) else (none, 172, ()) := by
  obtain ⟨m1, m2⟩ := may.is hC hl (dg := dg) (by omega)
  obtain ⟨b1, b2⟩ := begun.is hl hd hd
  refine NewE.is_fn _ _ ?_
  unfold NewE.run'
  rw [m2]
  by_cases hm : mayB n dg = true
  · have hlen : dg.length = n := by
      unfold mayB at hm
      rw [Bool.and_eq_true, decide_eq_true_eq] at hm
      exact hm.2
    have hrng : ∀ v, v < n → 0 ≤ dg.getD v 0 ∧ dg.getD v 0 < (n : Int) := fun v hv => by
      unfold mayB at hm
      rw [Bool.and_eq_true, List.all_eq_true] at hm
      have := hm.1 _ (mem_getD 0 dg v (by omega))
      simpa using this
    have key := NewE.F5_inv (l0 := some cs) (t17 := dg) (t18 := (dg.length : Int))
      (fun i l p u q c r1 r2 r3 r4 => ∃ j : Nat, i = (j : Int) ∧ j ≤ dg.length ∧ l = some cs ∧ p = 0 ∧ u = false ∧ q = 0 ∧ c = -1 ∧ dg = r1 ∧ dg = r2 ∧ r3 = marks (fun v => decide (dg.getD v 0 > 0)) (fun v => shN cs (v : Nat)) j (zeroW cs.length) ∧ r4 = [])
      (fun i _ _ _ _ _ _ _ _ _ => dg.length - i.toNat)
      (fun z => z = ((), ((some cs, 0, false, 0, -1, ()), dg, dg, newW cs dg, [], ())))
      (fun i l p u q c r1 r2 r3 r4 hI => by
        obtain ⟨j, rfl, hj, rfl, rfl, rfl, rfl, rfl, rfl, rfl, rfl, rfl⟩ := hI
        unfold NewE.R5
        refine led_dif (fun q1 => ?_) (fun q1 => led_x ?_)
        · have hjl : j < dg.length := by omega
          have hw : IntKind.wrap .i64 ((j : Int) + 1) = (j : Int) + 1 := wr (by omega) (by omega)
          obtain ⟨s1, s2⟩ := Shard.is hC hl (v := (j : Int)) (by omega) (by omega)
          have hsh := (sh_at hC (v := (j : Int)) (by omega) (by omega)).1
          have hW := (marks_ok (f := fun v => decide (dg.getD v 0 > 0)) (g := fun v => shN cs (v : Nat)) (zeroW_ok cs.length) j (fun v hv => Nat.le_of_lt (sh_at hC (by omega) (by omega)).1)).1
          obtain ⟨k1, k2⟩ := mark.is (hW.wds (by omega)) (some cs) dg dg 0 false 0 (-1) [] (s := shN cs (j : Int)) (hW.lt (Nat.le_of_lt hsh))
          refine led_need (by omega) (led_need q1 ?_)
          rw [Int.toNat_natCast, hw]
          refine led_dif (fun c => led_need s1 ?_) (fun c => ?_)
          · rw [s2]
            refine led_need k1 ?_
            rw [k2]
            simp only [letZ]
            refine led_k ⟨_, _, _, _, _, _, _, _, _, _, rfl, ⟨j + 1, by omega, by omega, rfl, rfl, rfl, rfl, rfl, rfl, rfl, ?_, rfl⟩, by omega⟩
            rw [marks_succ, if_pos (decide_eq_true c)]
          · refine led_k ⟨_, _, _, _, _, _, _, _, _, _, rfl, ⟨j + 1, by omega, by omega, rfl, rfl, rfl, rfl, rfl, rfl, rfl, ?_, rfl⟩, by omega⟩
            rw [marks_succ, if_neg (by simpa using c)]
        · obtain rfl : j = dg.length := by omega
          rfl) 0 (some cs) 0 false 0 (-1) dg dg (zeroW cs.length) [] ⟨0, rfl, by omega, rfl, rfl, rfl, rfl, rfl, rfl, rfl, rfl, rfl⟩
    obtain ⟨z, hz, rfl⟩ := key
    simp only [m1, hm, b1, b2, letZ, if_true, Bool.not_true, Bool.false_eq_true, if_false, Option.isNone_some, Option.getD_some]
    rw [hz]
  · have hm' : mayB n dg = false := by simpa using hm
    simp only [m1, hm', if_true, Bool.not_false, Bool.false_eq_true, if_false]
/-- May a search go on from these numbers? -/
theorem FromE.is {n : Nat} {cs : List Int} (hC : Cuts n cs) (hl : cs.length ≤ 65536) (hn : n ≤ 1048576) {dg : List Int} (hm : mayB n dg = true) {p : Int} (hp : 0 ≤ p) {es : List Int} (he : es.length = n) (hes : ∀ v, v < n → 0 ≤ es.getD v 0 ∧ es.getD v 0 ≤ dg.getD v 0) {fl : List Bool} (hfl : fl.length = cs.length) :
    FromE.pre (some cs) dg (p, es, fl) = true ∧ FromE.fn (some cs) dg (p, es, fl) = (some (some cs, dg, es, fromW cs.length fl, p, false, 0, -1, [], false), 0, ()) := by
  have hlen : dg.length = n := by
    unfold mayB at hm
    rw [Bool.and_eq_true, decide_eq_true_eq] at hm
    exact hm.2
  obtain ⟨m1, m2⟩ := may.is hC hl (dg := dg) (by omega)
  obtain ⟨b1, b2⟩ := begun.is hl (dg := dg) (bd := es) (by omega) (by omega)
  have hS : Shards.pre (some cs) = true ∧ Shards.fn (some cs) = ((cs.length : Int), ()) := Shards.is_fn _ rfl
  have key := FromE.F6_inv (l0 := some cs) (degrees1 := dg) (t37 := es) (t38 := (es.length : Int)) (c0x0 := p) (c0x1 := es) (c0x2 := fl)
    (fun i => ∃ j : Nat, i = (j : Int) ∧ j ≤ n) (fun i => n - i.toNat) (fun z => z = Sum.inr ((some cs, dg, ()), ((p, es, fl, ()), ()))) (fun i hI => by
      obtain ⟨j, rfl, hj⟩ := hI
      unfold FromE.R6
      refine led_dif (fun q1 => ?_) (fun q1 => led_x rfl)
      have hjl : j < n := by omega
      have hv := hes j hjl
      have hw : IntKind.wrap .i64 ((j : Int) + 1) = (j : Int) + 1 := wr (by omega) (by omega)
      refine led_need (by omega) (led_need q1 ?_)
      rw [Int.toNat_natCast, decide_eq_false (show ¬ es.getD j 0 < 0 by omega), decide_eq_false (show ¬ es.getD j 0 > dg.getD j 0 by omega), hw]
      refine led_yes rfl (led_need (by omega) (led_need (by omega) (led_no (by simp) ?_)))
      exact led_k ⟨_, rfl, ⟨j + 1, by omega, by omega⟩, by omega⟩) 0 ⟨0, rfl, by omega⟩
  obtain ⟨z, hz, rfl⟩ := key
  have key2 := FromE.F14_inv (t66 := fl) (t67 := (fl.length : Int))
    (fun i l p' u q c r1 r2 r3 r4 => ∃ j : Nat, i = (j : Int) ∧ j ≤ fl.length ∧ l = some cs ∧ p' = p ∧ u = false ∧ q = 0 ∧ c = -1 ∧ dg = r1 ∧ es = r2 ∧ r3 = marks (fun v => fl.getD v false) (fun v => v) j (zeroW cs.length) ∧ r4 = [])
    (fun i _ _ _ _ _ _ _ _ _ => fl.length - i.toNat)
    (fun z => z = ((), ((some cs, p, false, 0, -1, ()), dg, es, fromW cs.length fl, [], ())))
    (fun i l p' u q c r1 r2 r3 r4 hI => by
      obtain ⟨j, rfl, hj, rfl, rfl, rfl, rfl, rfl, rfl, rfl, rfl, rfl⟩ := hI
      unfold FromE.R14
      refine led_dif (fun q1 => ?_) (fun q1 => led_x ?_)
      · have hjl : j < fl.length := by omega
        have hw : IntKind.wrap .i64 ((j : Int) + 1) = (j : Int) + 1 := wr (by omega) (by omega)
        have hW := (marks_ok (f := fun v => fl.getD v false) (g := fun v => v) (zeroW_ok cs.length) j (fun v hv => by omega)).1
        obtain ⟨k1, k2⟩ := mark.is (hW.wds (by omega)) (some cs) dg es p' false 0 (-1) [] (s := j) (hW.lt (by omega))
        refine led_need (by omega) (led_need q1 ?_)
        rw [Int.toNat_natCast, hw]
        refine led_if (fun c => led_need k1 ?_) (fun c => ?_)
        · rw [k2]
          simp only [letZ]
          refine led_k ⟨_, _, _, _, _, _, _, _, _, _, rfl, ⟨j + 1, by omega, by omega, rfl, rfl, rfl, rfl, rfl, rfl, rfl, ?_, rfl⟩, by omega⟩
          rw [marks_succ, if_pos c]
        · refine led_k ⟨_, _, _, _, _, _, _, _, _, _, rfl, ⟨j + 1, by omega, by omega, rfl, rfl, rfl, rfl, rfl, rfl, rfl, ?_, rfl⟩, by omega⟩
          rw [marks_succ, if_neg c]
      · obtain rfl : j = fl.length := by omega
        rfl) 0 (some cs) p false 0 (-1) dg es (zeroW cs.length) [] ⟨0, rfl, by omega, rfl, rfl, rfl, rfl, rfl, rfl, rfl, rfl, rfl⟩
  obtain ⟨z2, hz2, rfl⟩ := key2
  refine FromE.is_fn _ _ _ ?_
  unfold FromE.run'
  have e1 : ¬ p < 0 := by omega
  have e2 : ((es.length : Int) != (dg.length : Int)) = false := by rw [he, hlen]; simp
  have e3 : ((fl.length : Int) != (cs.length : Int)) = false := by rw [hfl]; simp
  rw [m2, hS.2]
  simp only [m1, hm, hS.1, b1, b2, e1, e2, e3, letZ, if_true, Bool.not_true, Bool.false_eq_true, if_false, decide_false, hz, Option.isNone_some, Option.getD_some]
  rw [hz2]
theorem markW_take {cs ts : List Int} {v s : Nat} {bd : List Int} {h old : Int} {dr : List Int} {j : Nat} (hj : j < ts.length) : markW cs (ts.take (j + 1)) v s bd h old dr = if cross cs v s bd h old (ts.getD j 0) = true then setBit (markW cs (ts.take j) v s bd h old dr) (shN cs (ts.getD j 0)) else markW cs (ts.take j) v s bd h old dr := by
  unfold markW
  rw [take_snoc 0 ts j hj, List.foldl_append]
  rfl
theorem ReadE.F17_is {n : Nat} {cs : List Int} (hC : Cuts n cs) (hl : cs.length ≤ 65536) (hn : n ≤ 1048576) (f : Int) (v s : Nat) (hs : s < cs.length) (old h : Int) (ls : List (Int × List Int)) (L i : Int) {ts : List Int} (hts : ∀ u ∈ ts, 0 ≤ u ∧ u < (n : Int)) (htl : ts.length ≤ 1099511627776) (p : Int) (u : Bool) (q c : Int) (dg : List Int) {bd : List Int} (hb : bd.length = n) {dr : List Int} (hw : Wn cs.length dr) (k : List Int) :
    ReadE.F17 (s : Int) f (v : Int) old h ls L i ts (ts.length : Int) 0 (some cs) p u q c dg bd dr k = some (((s : Int), f, ls, L, i, ()), ((some cs, p, u, q, c, ()), dg, bd, markW cs ts v s bd h old dr, k, ())) := by
  have key := ReadE.F17_inv (shard1 := (s : Int)) (falls8 := f) (v11 := (v : Int)) (old12 := old) (h13 := h) (t53 := ls) (t54 := L) (t55 := i) (t86 := ts) (t87 := (ts.length : Int))
    (fun i' l' p' u' q' c' r1 r2 r3 r4 => ∃ j : Nat, i' = (j : Int) ∧ j ≤ ts.length ∧ l' = some cs ∧ p' = p ∧ u' = u ∧ q' = q ∧ c' = c ∧ r1 = dg ∧ r2 = bd ∧ r3 = markW cs (ts.take j) v s bd h old dr ∧ r4 = k)
    (fun i' _ _ _ _ _ _ _ _ _ => ts.length - i'.toNat)
    (fun z => z = (((s : Int), f, ls, L, i, ()), ((some cs, p, u, q, c, ()), dg, bd, markW cs ts v s bd h old dr, k, ())))
    (fun i' l' p' u' q' c' r1 r2 r3 r4 hI => by
      obtain ⟨j, rfl, hj, rfl, rfl, rfl, rfl, rfl, rfl, rfl, rfl, rfl⟩ := hI
      unfold ReadE.R17
      refine led_dif (fun q1 => ?_) (fun q1 => led_x ?_)
      · have hjl : j < ts.length := by omega
        have hw1 : IntKind.wrap .i64 ((j : Int) + 1) = (j : Int) + 1 := wr (by omega) (by omega)
        have hx := hts _ (mem_getD 0 ts j hjl)
        have tk := markW_take (cs := cs) (v := v) (s := s) (bd := r2) (h := h) (old := old) (dr := dr) hjl
        have hsh := (sh_at hC hx.1 hx.2).1
        obtain ⟨s1, s2⟩ := Shard.is hC hl hx.1 hx.2
        have hW := (markW_ok cs v s r2 h old (m := cs.length) (ts.take j) hw (fun x hx => Nat.le_of_lt (sh_at hC (hts x (List.mem_of_mem_take hx)).1 (hts x (List.mem_of_mem_take hx)).2).1)).1
        obtain ⟨k1, k2⟩ := mark.is (hW.wds (by omega)) (some cs) r1 r2 p' u' q' c' r4 (s := shN cs (ts.getD j 0)) (hW.lt (Nat.le_of_lt hsh))
        have ho : ∀ r3', r3' = markW cs (ts.take (j + 1)) v s r2 h old dr → Led (fun (R : Type) (k' : ReadE.V17 → Option R) (kx : ReadE.X17 → Option R) => k' (((s : Int), f, (v : Int), old, h, ls, L, i, ts, (ts.length : Int), (j : Int) + 1, ()), ((some cs, p', u', q', c', ()), r1, r2, r3', r4, ())))
            (fun v' => ∃ (t88' : Int) (c0x0' : Option (List Int)) (c0x4' : Int) (c0x5' : Bool) (c0x6' : Int) (c0x7' : Int) (r1' : List Int) (r2' : List Int) (r3' : List Int) (r4' : List Int), v' = (((s : Int), f, (v : Int), old, h, ls, L, i, ts, (ts.length : Int), t88', ()), ((c0x0', c0x4', c0x5', c0x6', c0x7', ()), r1', r2', r3', r4', ())) ∧ (∃ j : Nat, t88' = (j : Int) ∧ j ≤ ts.length ∧ c0x0' = some cs ∧ c0x4' = p' ∧ c0x5' = u' ∧ c0x6' = q' ∧ c0x7' = c' ∧ r1' = r1 ∧ r2' = r2 ∧ r3' = markW cs (ts.take j) v s r2 h old dr ∧ r4' = r4) ∧ ts.length - t88'.toNat < ts.length - ((j : Int)).toNat)
            (fun z => z = (((s : Int), f, ls, L, i, ()), ((some cs, p', u', q', c', ()), r1, r2, markW cs ts v s r2 h old dr, r4, ()))) := fun r3' e => led_k ⟨_, _, _, _, _, _, _, _, _, _, rfl, ⟨j + 1, by omega, by omega, rfl, rfl, rfl, rfl, rfl, rfl, rfl, e, rfl⟩, by omega⟩
        refine led_need (by omega) (led_need q1 ?_)
        rw [Int.toNat_natCast]
        refine led_need hx.1 (led_need (by omega) ?_)
        rw [hw1]
        unfold cross at tk
        refine led_dif (fun c1 => ?_) (fun c1 => ho _ (by rw [tk, decide_eq_false c1]; rfl))
        refine led_dif (fun c2 => ?_) (fun c2 => ho _ (by rw [tk, decide_eq_false c2, Bool.and_false]; rfl))
        rw [decide_eq_true c1, decide_eq_true c2] at tk
        by_cases c3 : ts.getD j 0 < (v : Int)
        · rw [decide_eq_true c3]
          refine led_no (by simp) (led_need s1 ?_)
          rw [s2]
          refine led_need k1 ?_
          rw [k2]
          simp only [letZ]
          refine ho _ ?_
          rw [tk, decide_eq_true c3]
          rfl
        · rw [decide_eq_false c3]
          refine led_yes rfl (led_need s1 ?_)
          rw [s2]
          by_cases c4 : shN cs (ts.getD j 0) = s
          · refine led_no (by rw [c4]; simp) (ho _ ?_)
            rw [tk, decide_eq_false c3, decide_eq_false (by omega)]
            rfl
          · refine led_yes (bne_iff_ne.2 (by omega)) (led_need s1 (led_need k1 ?_))
            rw [k2]
            simp only [letZ]
            refine ho _ ?_
            rw [tk, decide_eq_false c3, decide_eq_true c4]
            rfl
      · obtain rfl : j = ts.length := by omega
        rw [take_all (Nat.le_refl _)]) 0 (some cs) p u q c dg bd dr k ⟨0, rfl, by omega, rfl, rfl, rfl, rfl, rfl, rfl, rfl, rfl, rfl⟩
  obtain ⟨z, hz, rfl⟩ := key
  exact hz
/-- Lists that a read may be handed: of vertices, with neighbours that are vertices. -/
def Rows17 (n : Nat) (ls : List (Int × List Int)) : Prop := ∀ x ∈ ls, 0 ≤ x.1 ∧ x.1 < (n : Int) ∧ x.2.length ≤ 1048576 ∧ ∀ u ∈ x.2, 0 ≤ u ∧ u < (n : Int)
theorem ReadE.F9_is {n : Nat} {cs : List Int} (hC : Cuts n cs) (hl : cs.length ≤ 65536) (hn : n ≤ 1048576) (s : Nat) (hs : s < cs.length) {ls : List (Int × List Int)} (hls : Rows17 n ls) (hll : ls.length ≤ 1048576) (p : Int) (u : Bool) (q c : Int) (dg : List Int) {bd0 : List Int} (hb : bd0.length = n) (hb0 : ∀ j, 0 ≤ bd0.getD j 0) (hb1 : ∀ j, bd0.getD j 0 ≤ 1099511627776) {dr : List Int} (hw : Wn cs.length dr) (k : List Int) :
    ∃ k', ReadE.F9 (s : Int) 0 ls (ls.length : Int) 0 (some cs) p u q c dg bd0 dr k = some (((readW cs s ls (bd0, 0, dr)).2.1, ()), ((some cs, p, u, q, c, ()), dg, (readW cs s ls (bd0, 0, dr)).1, (readW cs s ls (bd0, 0, dr)).2.2, k', ())) := by
  have hB0 : Bds n bd0 bd0 := ⟨hb, hb0, fun _ => Int.le_refl _⟩
  have key := ReadE.F9_inv (shard1 := (s : Int)) (t53 := ls) (t54 := (ls.length : Int))
    (fun f i' l' p' u' q' c' r1 r2 r3 r4 => ∃ j : Nat, i' = (j : Int) ∧ j ≤ ls.length ∧ l' = some cs ∧ p' = p ∧ u' = u ∧ q' = q ∧ c' = c ∧ r1 = dg ∧ f = (readW cs s (ls.take j) (bd0, 0, dr)).2.1 ∧ r2 = (readW cs s (ls.take j) (bd0, 0, dr)).1 ∧ r3 = (readW cs s (ls.take j) (bd0, 0, dr)).2.2)
    (fun _ i' _ _ _ _ _ _ _ _ _ => ls.length - i'.toNat)
    (fun z => ∃ k', z = (((readW cs s ls (bd0, 0, dr)).2.1, ()), ((some cs, p, u, q, c, ()), dg, (readW cs s ls (bd0, 0, dr)).1, (readW cs s ls (bd0, 0, dr)).2.2, k', ())))
    (fun f i' l' p' u' q' c' r1 r2 r3 r4 hI => by
      obtain ⟨j, rfl, hj, rfl, rfl, rfl, rfl, rfl, rfl, ef, e2, e3⟩ := hI
      unfold ReadE.R9
      refine led_dif (fun q1 => ?_) (fun q1 => led_x ?_)
      · have hjl : j < ls.length := by omega
        have hw1 : IntKind.wrap .i64 ((j : Int) + 1) = (j : Int) + 1 := wr (by omega) (by omega)
        have tk := readW_take (cs := cs) (s := s) (st := (bd0, 0, dr)) hjl
        have hB := readW_bds (cs := cs) (s := s) (ls.take j) (st := (bd0, 0, dr)) hB0
        have hWn := (readW_ok (cs := cs) (s := s) (ls.take j) (bd := bd0) (f := 0) hw (fun x hx u hu => Nat.le_of_lt (sh_at hC ((hls x (List.mem_of_mem_take hx)).2.2.2 u hu).1 ((hls x (List.mem_of_mem_take hx)).2.2.2 u hu).2).1)).1
        have hfl := readW_falls cs s (ls.take j) (bd0, 0, dr)
        rw [List.length_take] at hfl
        rw [← e2] at hB
        rw [← e3] at hWn
        rw [← ef] at hfl
        have hfl0 : (0 : Int) ≤ f := hfl.1
        have hfl1 : f ≤ 1048576 := by
          have := hfl.2
          simp only at this
          omega
        have est : readW cs s (ls.take j) (bd0, 0, dr) = (r2, f, r3) := by rw [e2, e3, ef]
        rw [est] at tk
        obtain ⟨x, hx⟩ : ∃ x, ls.getD j (0, []) = x := ⟨_, rfl⟩
        rw [hx] at tk
        have hxm := hls x (by rw [← hx]; exact mem_getD (0, []) ls j hjl)
        obtain ⟨v, hv⟩ : ∃ v : Nat, x.1 = (v : Int) := ⟨x.1.toNat, by omega⟩
        have hvn : v < n := by omega
        have hbl := hB.len
        have a0 : (0 : Int) ≤ (v : Int) := by omega
        have a1 : (v : Int) < (r2.length : Int) := by omega
        have a2 : v < r2.length := by omega
        have hp : hE.pre (some cs) r1 r2 r3 p' u' q' c' r4 (v : Int) x.2 = true := by
          show hE.preB r2 (v : Int) x.2 = true
          unfold hE.preB
          refine and_need (and_need (and_need (and_need (decide_eq_true a0) (decide_eq_true a1)) ?_) ?_) (decide_eq_true (by have := hxm.2.2.1; omega))
          · rw [List.all_eq_true]
            intro y hy
            obtain ⟨m, hm, rfl⟩ := (mem_idx 0).1 hy
            have g1 := hB.lo m
            have g2 := hB.hi m
            have g3 := hb1 m
            simp only [Bool.and_eq_true, decide_eq_true_eq]
            omega
          · rw [List.all_eq_true]
            intro y hy
            have := hxm.2.2.2 y hy
            simp only [Bool.and_eq_true, decide_eq_true_eq]
            omega
        have hf : hE.fn (some cs) r1 r2 r3 p' u' q' c' r4 (v : Int) x.2 = ((some cs, r1, r2, r3, p', u', q', c', hE.cnt r2 (v : Int) x.2, false), Hx.hOf (Hx.vals x.2 r2) (r2.getD v 0), ()) := by
          show (_, hE.res r2 (v : Int) x.2, ()) = _
          unfold hE.res
          rw [Int.toNat_natCast]
        refine led_need (by omega) (led_need q1 ?_)
        have a3 : (0 : Int) ≤ (j : Int) := by omega
        have hs2 : (List.set r2 v (Hx.hOf (Hx.vals x.2 r2) (r2.getD v 0))).length = n := by rw [List.length_set]; exact hbl
        have hF := fun (kk : List Int) => ReadE.F17_is hC hl hn (f + 1) v s hs (r2.getD v 0) (Hx.hOf (Hx.vals x.2 r2) (r2.getD v 0)) ls (ls.length : Int) (j : Int) (ts := x.2) hxm.2.2.2 (by have := hxm.2.2.1; omega) p' u' q' c' r1 hs2 hWn kk
        have hwf : IntKind.wrap .i64 (f + 1) = f + 1 := wr (by omega) (by omega)
        simp only [Int.toNat_natCast, hx, hv, hp, hf, letZ, a0, a1, a2, if_true, bothK_same, hwf, hF, hw1]
        unfold rStepW at tk
        simp only [hv, Int.toNat_natCast] at tk
        refine led_dif (fun cc => ?_) (fun cc => ?_)
        · rw [if_pos cc] at tk
          exact led_k ⟨_, _, _, _, _, _, _, _, _, _, _, rfl, ⟨j + 1, by omega, by omega, rfl, rfl, rfl, rfl, rfl, rfl, by rw [tk], by rw [tk], by rw [tk]⟩, by omega⟩
        · rw [if_neg cc] at tk
          exact led_k ⟨_, _, _, _, _, _, _, _, _, _, _, rfl, ⟨j + 1, by omega, by omega, rfl, rfl, rfl, rfl, rfl, rfl, by rw [tk], by rw [tk], by rw [tk]⟩, by omega⟩
      · obtain rfl : j = ls.length := by omega
        rw [take_all (Nat.le_refl _)] at ef e2 e3
        exact ⟨r4, by rw [ef, e2, e3]⟩) 0 0 (some cs) p u q c dg bd0 dr k ⟨0, rfl, by omega, rfl, rfl, rfl, rfl, rfl, rfl, rfl, rfl, rfl⟩
  obtain ⟨z, hz, k', rfl⟩ := key
  exact ⟨k', hz⟩
theorem ReadE.turn (l : Option (List Int)) (dg bd dr : List Int) (p : Int) (u : Bool) (q c : Int) (k : List Int) {s : Int} (h : s < 0 ∨ s ≠ c) (ls : List (Int × List Int)) :
    ReadE.pre l dg bd dr p u q c k s ls = true ∧ ReadE.fn l dg bd dr p u q c k s ls = ((l, dg, bd, dr, p, u, q, c, k, false), 0, 170, ()) := by
  refine ReadE.is_fn _ _ _ _ _ _ _ _ _ _ _ ?_
  unfold ReadE.run'
  by_cases h0 : s < 0
  · rw [decide_eq_true h0]
    rfl
  · rw [decide_eq_false h0, if_pos rfl, if_pos (bne_iff_ne.2 (h.resolve_left h0))]
/-- A read of the shard that is called, of lists that fit. -/
theorem ReadE.ok17 {n : Nat} {cs : List Int} (hC : Cuts n cs) (hl : cs.length ≤ 65536) (hn : n ≤ 1048576) {dg : List Int} (hdg : dg.length = n) (hdl : ∀ v, dg.getD v 0 ≤ 1048576) {bd : List Int} (hb : bd.length = n) (hb0 : ∀ j, 0 ≤ bd.getD j 0) (hb1 : ∀ j, bd.getD j 0 ≤ 1099511627776) {dr : List Int} (hw : Wn cs.length dr) (p : Int) (u : Bool) (q : Int) (k : List Int) {s : Nat} (hs : s < cs.length)
    {ls : List (Int × List Int)} (hll : ls.length ≤ 1048576) (hlt : ∀ i, ((ls.getD i (0, [])).2).length < 4294967296) (hf : fitsB dg n (List.range' (lowC cs s).toNat ((lowC cs (s + 1)).toNat - (lowC cs s).toNat)) ls = true) :
    ReadE.pre (some cs) dg bd dr p u q (s : Int) k (s : Int) ls = true ∧ ∃ k', ReadE.fn (some cs) dg bd dr p u q (s : Int) k (s : Int) ls = ((some cs, dg, (readW cs s ls (bd, 0, clrBit dr s)).1, (readW cs s ls (bd, 0, clrBit dr s)).2.2, p, u, (s : Int) + 1, -1, k', false), (readW cs s ls (bd, 0, clrBit dr s)).2.1, 0, ()) := by
  obtain ⟨f1, f2⟩ := fits.is hC hl (dg := dg) (by omega) (by omega) bd dr p u q (s : Int) k hs ls (by omega) hlt
  rw [hf] at f2
  have hlo := hC.lown (s := s + 1) (by omega)
  have hrows : Rows17 n ls := fun x hx => by
    obtain ⟨⟨v, hv, e, el⟩, g⟩ := (fitsB_mem _ _ hf).2 x hx
    have := List.mem_range'.1 hv
    obtain ⟨i, hi, ev⟩ := this
    have h0 := hC.low0 (s := s) (by omega)
    have := hdl v
    exact ⟨by omega, by omega, by omega, g⟩
  obtain ⟨x, hx, hx2⟩ := hw.w.nat (s / 64)
  have hlt' := hw.lt (s := s) (by omega)
  have a0 : (0 : Int) ≤ ((s / 64 : Nat) : Int) := by omega
  have a1 : ((s / 64 : Nat) : Int) < (dr.length : Int) := by omega
  have a2 : (0 : Int) ≤ ((s % 64 : Nat) : Int) := by omega
  have a3 : s / 64 < dr.length := by omega
  have hk : s % 64 < 64 := Nat.mod_lt _ (by decide)
  have e0 : ¬ ((s : Int) < 0) := by omega
  have e1 : ((s : Int) != (s : Int)) = false := by simp
  have ew : IntKind.wrap .i64 ((s : Int) + 1) = (s : Int) + 1 := wr (by omega) (by omega)
  have ec : List.set dr (s / 64) (bitsZ Go.BinOp.andNot Go.IntKind.u64 (dr.getD (s / 64) 0) (Go.IntKind.wrap Go.IntKind.u64 ((1 : Int) * (2 : Int) ^ Min.min (s % 64) (64 : Nat)))) = clrBit dr s := by
    rw [hx, one_shl hk, bz_andNot hx2 (pow_lt hk)]
    unfold clrBit
    rw [hx, Int.toNat_natCast]
  obtain ⟨k', hF⟩ := ReadE.F9_is hC hl hn s hs hrows hll p u ((s : Int) + 1) (-1) dg hb hb0 hb1 (hw.clrBit s) k
  have run : ReadE.run' (some cs) dg bd dr p u q (s : Int) k (s : Int) ls = some ((some cs, dg, (readW cs s ls (bd, 0, clrBit dr s)).1, (readW cs s ls (bd, 0, clrBit dr s)).2.2, p, u, (s : Int) + 1, -1, k', false), (readW cs s ls (bd, 0, clrBit dr s)).2.1, 0, ()) := by
    unfold ReadE.run'
    simp only [f1, f2, letZ, e0, e1, decide_false, if_true, Bool.not_true, Bool.false_eq_true, if_false, tdiv64 s (by omega), tmod64, Int.toNat_natCast, a0, a1, a2, a3, ew]
    rw [ec, hF]
  obtain ⟨g1, g2⟩ := ReadE.is_fn _ _ _ _ _ _ _ _ _ _ _ run
  exact ⟨g1, k', g2⟩
end Go.Proofs.YthbojpaghbbnnaaDoor.Z
namespace Go.Proofs.YthbojpaghbbnnaaDoor.Z
open Go Go.RowKit Esx
set_option linter.unusedVariables false
set_option linter.unusedSimpArgs false
theorem list17.is (v : Int) (ts : List Int) : list17.pre v ts = true ∧ list17.fn v ts = ((v, ts), ()) := list17.is_fn _ _ rfl
abbrev low17 : List (Int × List Int) := [(0, [1, 2]), (1, [0, 2]), (2, [0, 1, 3])]
abbrev high17 : List (Int × List Int) := [(3, [2, 4]), (4, [3, 5]), (5, [4])]
abbrev dg17 : List Int := [2, 2, 3, 2, 2, 1]
theorem cuts36 : Cuts 6 [3, 6] := by
  refine ⟨fun i j h1 h2 => ?_, fun i h => ?_, rfl⟩
  · have h2 : j < 2 := h2
    obtain rfl : i = 0 := by omega
    obtain rfl : j = 1 := by omega
    decide
  · have h : i < 2 := h
    rcases i with _ | _ | i
    · decide
    · decide
    · omega
theorem wn36 {x : Nat} (hx : x < 18446744073709551616) : Wn 2 [(x : Int)] := ⟨fun i => by
  rcases i with _ | i
  · exact ⟨Int.natCast_nonneg _, by show (x : Int) < _; omega⟩
  · show 0 ≤ (0 : Int) ∧ (0 : Int) < _
    decide, rfl⟩
theorem small_of {l : List Int} {B : Int} (h0 : 0 ≤ B) (h : ∀ x ∈ l, 0 ≤ x ∧ x ≤ B) (j : Nat) : 0 ≤ l.getD j 0 ∧ l.getD j 0 ≤ B := by
  by_cases hj : j < l.length
  · exact h _ (mem_getD 0 l j hj)
  · rw [getD_out (by omega)]; exact ⟨Int.le_refl _, h0⟩
/-- A read of the example: what it leaves. -/
theorem read36 {bd : List Int} {x : Nat} (hx : x < 18446744073709551616) (hb : bd.length = 6) (hbb : ∀ y ∈ bd, 0 ≤ y ∧ y ≤ 3) (p : Int) (u : Bool) (q : Int) (k : List Int) {s : Nat} (hs : s < 2) {ls : List (Int × List Int)} (hll : ls.length ≤ 10) (hlt : ls.all (fun y => decide (y.2.length ≤ 10)) = true) {bd' : List Int} {f : Int} {dr' : List Int} (hf : fitsB dg17 6 (List.range' (lowC [3, 6] s).toNat ((lowC [3, 6] (s + 1)).toNat - (lowC [3, 6] s).toNat)) ls = true) (hr : readW [3, 6] s ls (bd, 0, clrBit [(x : Int)] s) = (bd', f, dr')) :
    ReadE.pre (some [3, 6]) dg17 bd [(x : Int)] p u q (s : Int) k (s : Int) ls = true ∧ ∃ k', ReadE.fn (some [3, 6]) dg17 bd [(x : Int)] p u q (s : Int) k (s : Int) ls = ((some [3, 6], dg17, bd', dr', p, u, (s : Int) + 1, -1, k', false), f, 0, ()) := by
  have h := ReadE.ok17 (n := 6) cuts36 (by decide) (by decide) (dg := dg17) rfl (fun v => Int.le_trans (small_of (B := 3) (by decide) (by decide) v).2 (by decide)) hb (fun j => (small_of (by decide) hbb j).1) (fun j => Int.le_trans (small_of (by decide) hbb j).2 (by decide)) (wn36 hx) p u q k hs (ls := ls) (by omega) (fun i => by
    by_cases hi : i < ls.length
    · have := List.all_eq_true.1 hlt _ (mem_getD (0, []) ls i hi)
      rw [decide_eq_true_eq] at this
      omega
    · rw [getD_out (by omega)]; decide) hf
  rw [hr] at h
  exact h
theorem first17.is : first17.pre = true ∧ first17.fn = (true, ()) := by
  have l1 : layNew.pre (6 : Int) [3, 6] = true := (layNew.is cuts36 (by decide) (by decide)).1
  have l2 : layNew.fn (6 : Int) [3, 6] = (some [3, 6], 0, ()) := (layNew.is cuts36 (by decide) (by decide)).2
  obtain ⟨n1, n2⟩ := NewE.is cuts36 (by decide) (dg := dg17) (by decide)
  rw [if_pos (by decide), show newW [3, 6] dg17 = [3] from by decide] at n2
  obtain ⟨m1, m2⟩ := NewE.is cuts36 (by decide) (dg := [2, 2, 3, 2, 2]) (by decide)
  rw [if_neg (by decide)] at m2
  have W : ∀ x : Nat, x < 18446744073709551616 → Wds [(x : Int)] := fun x hx => (wn36 hx).wds (by decide)
  have N := fun (x : Nat) (hx : x < 18446744073709551616) (bd : List Int) (p : Nat) (hp : p < 10) (u : Bool) (q : Nat) (hq : q < 10) (c : Int) (k : List Int) => NextE.is (W x hx) (some [3, 6]) dg17 bd (p := (p : Int)) ⟨by omega, by omega⟩ u q (by omega) c k
  have D2 := DirtyE.is (W 2 (by decide)) (cs := [3, 6]) (by decide) dg17 [2, 2, 2, 2, 1, 1]
  have B := fun dr p u q c k => BoundsE.is (some [3, 6]) dg17 [2, 2, 2, 1, 1, 1] dr (by decide) p u q c k
  have e1 := fun k => (N 3 (by decide) dg17 0 (by decide) false 0 (by decide) (-1) k)
  have r1 := fun k => ReadE.turn (some [3, 6]) dg17 dg17 [3] 0 true 0 0 k (s := 1) (.inr (by decide)) []
  have r2 := fun k => read36 (bd := dg17) (x := 3) (by decide) rfl (by decide) 0 true 0 k (s := 0) (by decide) (ls := low17) (by decide) (by decide) (bd' := [2, 2, 2, 2, 2, 1]) (f := 1) (dr' := [2]) (by decide) (by decide)
  have e2 := fun k => (N 2 (by decide) [2, 2, 2, 2, 2, 1] 0 (by decide) true 1 (by decide) (-1) k)
  have r3 := fun k => read36 (bd := [2, 2, 2, 2, 2, 1]) (x := 2) (by decide) rfl (by decide) 0 true 1 k (s := 1) (by decide) (ls := high17) (by decide) (by decide) (bd' := [2, 2, 2, 2, 1, 1]) (f := 1) (dr' := [2]) (by decide) (by decide)
  have e3 := fun k => (N 2 (by decide) [2, 2, 2, 2, 1, 1] 0 (by decide) true 2 (by decide) (-1) k)
  have e4 := fun k => (N 2 (by decide) [2, 2, 2, 2, 1, 1] 1 (by decide) false 2 (by decide) (-1) k)
  have r4 := fun k => read36 (bd := [2, 2, 2, 2, 1, 1]) (x := 2) (by decide) rfl (by decide) 1 true 0 k (s := 1) (by decide) (ls := high17) (by decide) (by decide) (bd' := [2, 2, 2, 1, 1, 1]) (f := 1) (dr' := [1]) (by decide) (by decide)
  have e5 := fun k => (N 1 (by decide) [2, 2, 2, 1, 1, 1] 1 (by decide) true 2 (by decide) (-1) k)
  have e6 := fun k => (N 1 (by decide) [2, 2, 2, 1, 1, 1] 2 (by decide) false 2 (by decide) (-1) k)
  have r5 := fun k => read36 (bd := [2, 2, 2, 1, 1, 1]) (x := 1) (by decide) rfl (by decide) 2 true 0 k (s := 0) (by decide) (ls := low17) (by decide) (by decide) (bd' := [2, 2, 2, 1, 1, 1]) (f := 0) (dr' := [0]) (by decide) (by decide)
  have e7 := fun k => (N 0 (by decide) [2, 2, 2, 1, 1, 1] 2 (by decide) true 1 (by decide) (-1) k)
  have e8 := fun k => (N 0 (by decide) [2, 2, 2, 1, 1, 1] 3 (by decide) false 1 (by decide) (-1) k)
  have L : leastN [3] 0 = 0 ∧ leastN [2] 1 = 1 ∧ leastN [2] 2 = -1 ∧ leastN [2] 0 = 1 ∧ leastN [1] 2 = -1 ∧ leastN [1] 0 = 0 ∧ leastN [0] 1 = -1 ∧ leastN [0] 0 = -1 := by decide
  obtain ⟨L1, L2, L3, L4, L5, L6, L7, L8⟩ := L
  -- one after another
  have E1 : NextE.pre (some [3, 6]) dg17 dg17 [3] 0 false 0 (-1) [] = true ∧ NextE.fn (some [3, 6]) dg17 dg17 [3] 0 false 0 (-1) [] = ((some [3, 6], dg17, dg17, [3], 0, true, 0, 0, [], false), 0, ()) := ⟨(e1 []).1, (e1 []).2.trans (by simp [L1])⟩
  obtain ⟨R2p, k2, R2⟩ := r2 []
  have E2 : NextE.pre (some [3, 6]) dg17 [2, 2, 2, 2, 2, 1] [2] 0 true 1 (-1) k2 = true ∧ NextE.fn (some [3, 6]) dg17 [2, 2, 2, 2, 2, 1] [2] 0 true 1 (-1) k2 = ((some [3, 6], dg17, [2, 2, 2, 2, 2, 1], [2], 0, true, 1, 1, k2, false), 1, ()) := ⟨(e2 k2).1, (e2 k2).2.trans (by simp [L2])⟩
  obtain ⟨R3p, k3, R3⟩ := r3 k2
  have E3 : NextE.pre (some [3, 6]) dg17 [2, 2, 2, 2, 1, 1] [2] 0 true 2 (-1) k3 = true ∧ NextE.fn (some [3, 6]) dg17 [2, 2, 2, 2, 1, 1] [2] 0 true 2 (-1) k3 = ((some [3, 6], dg17, [2, 2, 2, 2, 1, 1], [2], 1, false, 2, -1, k3, false), -1, ()) := ⟨(e3 k3).1, (e3 k3).2.trans (by simp [L3])⟩
  have DD := D2 1 false 2 (-1) k3
  have E4 : NextE.pre (some [3, 6]) dg17 [2, 2, 2, 2, 1, 1] [2] 1 false 2 (-1) k3 = true ∧ NextE.fn (some [3, 6]) dg17 [2, 2, 2, 2, 1, 1] [2] 1 false 2 (-1) k3 = ((some [3, 6], dg17, [2, 2, 2, 2, 1, 1], [2], 1, true, 0, 1, k3, false), 1, ()) := ⟨(e4 k3).1, (e4 k3).2.trans (by simp [L4])⟩
  obtain ⟨R4p, k4, R4⟩ := r4 k3
  have E5 : NextE.pre (some [3, 6]) dg17 [2, 2, 2, 1, 1, 1] [1] 1 true 2 (-1) k4 = true ∧ NextE.fn (some [3, 6]) dg17 [2, 2, 2, 1, 1, 1] [1] 1 true 2 (-1) k4 = ((some [3, 6], dg17, [2, 2, 2, 1, 1, 1], [1], 2, false, 2, -1, k4, false), -1, ()) := ⟨(e5 k4).1, (e5 k4).2.trans (by simp [L5])⟩
  have E6 : NextE.pre (some [3, 6]) dg17 [2, 2, 2, 1, 1, 1] [1] 2 false 2 (-1) k4 = true ∧ NextE.fn (some [3, 6]) dg17 [2, 2, 2, 1, 1, 1] [1] 2 false 2 (-1) k4 = ((some [3, 6], dg17, [2, 2, 2, 1, 1, 1], [1], 2, true, 0, 0, k4, false), 0, ()) := ⟨(e6 k4).1, (e6 k4).2.trans (by simp [L6])⟩
  obtain ⟨R5p, k5, R5⟩ := r5 k4
  have E7 : NextE.pre (some [3, 6]) dg17 [2, 2, 2, 1, 1, 1] [0] 2 true 1 (-1) k5 = true ∧ NextE.fn (some [3, 6]) dg17 [2, 2, 2, 1, 1, 1] [0] 2 true 1 (-1) k5 = ((some [3, 6], dg17, [2, 2, 2, 1, 1, 1], [0], 3, false, 1, -1, k5, false), -1, ()) := ⟨(e7 k5).1, (e7 k5).2.trans (by simp [show leastN [0] 1 = -1 from L7])⟩
  have E8 : NextE.pre (some [3, 6]) dg17 [2, 2, 2, 1, 1, 1] [0] 3 false 1 (-1) k5 = true ∧ NextE.fn (some [3, 6]) dg17 [2, 2, 2, 1, 1, 1] [0] 3 false 1 (-1) k5 = ((some [3, 6], dg17, [2, 2, 2, 1, 1, 1], [0], 3, false, 1, -1, k5, false), -1, ()) := ⟨(e8 k5).1, (e8 k5).2.trans (by simp [show leastN [0] 0 = -1 from L8])⟩
  have BB := B [0] 3 false 1 (-1) k5
  have DN := DoneE.is (W 0 (by decide)) (some [3, 6]) dg17 [2, 2, 2, 1, 1, 1] 3 false 1 (-1) k5
  have PS := PassesE.is (some [3, 6]) dg17 [2, 2, 2, 1, 1, 1] [0] 3 false 1 (-1) k5
  have R1 := r1 []
  have DN1 : DoneE.pre (some [3, 6]) dg17 [2, 2, 2, 1, 1, 1] [0] 3 false 1 (-1) k5 = true := DN.1
  have DN2 : DoneE.fn (some [3, 6]) dg17 [2, 2, 2, 1, 1, 1] [0] 3 false 1 (-1) k5 = ((some [3, 6], dg17, [2, 2, 2, 1, 1, 1], [0], 3, false, 1, -1, k5, false), true, ()) := DN.2.trans (by simp [show leastN [0] 0 = -1 from L8])
  have DD1 : DirtyE.pre (some [3, 6]) dg17 [2, 2, 2, 2, 1, 1] [2] 1 false 2 (-1) k3 = true := DD.1
  have DD2 : DirtyE.fn (some [3, 6]) dg17 [2, 2, 2, 2, 1, 1] [2] 1 false 2 (-1) k3 = ((some [3, 6], dg17, [2, 2, 2, 2, 1, 1], [2], 1, false, 2, -1, k3, false), [false, true], ()) := DD.2.trans (by rw [show flagsOf [(3 : Int), 6].length [((2 : Nat) : Int)] = [false, true] from by decide]; rfl)
  have R2p' : ReadE.pre (some [3, 6]) dg17 dg17 [3] 0 true 0 0 [] 0 low17 = true := R2p
  have R2' : ReadE.fn (some [3, 6]) dg17 dg17 [3] 0 true 0 0 [] 0 low17 = ((some [3, 6], dg17, [2, 2, 2, 2, 2, 1], [2], 0, true, 1, -1, k2, false), 1, 0, ()) := R2
  have R3p' : ReadE.pre (some [3, 6]) dg17 [2, 2, 2, 2, 2, 1] [2] 0 true 1 1 k2 1 high17 = true := R3p
  have R3' : ReadE.fn (some [3, 6]) dg17 [2, 2, 2, 2, 2, 1] [2] 0 true 1 1 k2 1 high17 = ((some [3, 6], dg17, [2, 2, 2, 2, 1, 1], [2], 0, true, 2, -1, k3, false), 1, 0, ()) := R3
  have R4p' : ReadE.pre (some [3, 6]) dg17 [2, 2, 2, 2, 1, 1] [2] 1 true 0 1 k3 1 high17 = true := R4p
  have R4' : ReadE.fn (some [3, 6]) dg17 [2, 2, 2, 2, 1, 1] [2] 1 true 0 1 k3 1 high17 = ((some [3, 6], dg17, [2, 2, 2, 1, 1, 1], [1], 1, true, 2, -1, k4, false), 1, 0, ()) := R4
  have R5p' : ReadE.pre (some [3, 6]) dg17 [2, 2, 2, 1, 1, 1] [1] 2 true 0 0 k4 0 low17 = true := R5p
  have R5' : ReadE.fn (some [3, 6]) dg17 [2, 2, 2, 1, 1, 1] [1] 2 true 0 0 k4 0 low17 = ((some [3, 6], dg17, [2, 2, 2, 1, 1, 1], [0], 2, true, 1, -1, k5, false), 0, 0, ()) := R5
  have q1 := list17.is 0 [1, 2]
  have q2 := list17.is 1 [0, 2]
  have q3 := list17.is 2 [0, 1, 3]
  have q4 := list17.is 3 [2, 4]
  have q5 := list17.is 4 [3, 5]
  have q6 := list17.is 5 [4]
  have sb : ∀ a b, SameBools.pre a b = true := fun _ _ => rfl
  have si : ∀ a b, SameIntsH.pre a b = true := fun _ _ => rfl
  have nm : ∀ e, num17.pre e = true := fun e => (num17.is e).1
  have nf : ∀ e, num17.fn e = (e, ()) := fun e => (num17.is e).2
  refine first17.is_fn ?_
  unfold first17.run'
  simp only [l1, l2, n1, n2, m1, m2, nm, nf, letZ, if_true, Option.isNone_some, Option.isNone_none, Option.getD_some, q1, q2, q3, q4, q5, q6, E1.1, E1.2, R1.1, R1.2, R2p', R2', E2.1, E2.2, R3p', R3', E3.1, E3.2, DD1, DD2, E4.1, E4.2, R4p', R4', E5.1, E5.2, E6.1, E6.2, R5p', R5', E7.1, E7.2, E8.1, E8.2, BB.1, BB.2, DN1, DN2, PS.1, PS.2, sb, si, SameBools.fn, SameIntsH.fn, show ((0 : Int) != 0) = false from rfl, Bool.false_eq_true, if_false]
  decide
end Go.Proofs.YthbojpaghbbnnaaDoor.Z
namespace Go.Proofs.YthbojpaghbbnnaaDoor.Z
open Go Go.RowKit Esx
set_option linter.unusedVariables false
set_option linter.unusedSimpArgs false
theorem rStep_shift (nbs : Nat → List Int) (cs : List Int) (s : Nat) (b : List Int) (f g : Int) (D : Nat → Bool) (v : Nat) : rStep nbs cs s (b, f + g, D) v = ((rStep nbs cs s (b, g, D) v).1, f + (rStep nbs cs s (b, g, D) v).2.1, (rStep nbs cs s (b, g, D) v).2.2) := by
  unfold rStep
  simp only
  split
  · rfl
  · simp only [Int.add_assoc]
theorem readTo_shift (nbs : Nat → List Int) (cs : List Int) (s lo : Nat) (b : List Int) (f : Int) (D : Nat → Bool) : ∀ k, readTo nbs cs s lo k (b, f, D) = ((readTo nbs cs s lo k (b, 0, D)).1, f + (readTo nbs cs s lo k (b, 0, D)).2.1, (readTo nbs cs s lo k (b, 0, D)).2.2)
  | 0 => by simp [readTo]
  | k + 1 => by
    rw [readTo_succ, readTo_succ, readTo_shift nbs cs s lo b f D k]
    exact rStep_shift nbs cs s _ f _ _ _
/-- Where a search stands between two reads. -/
structure Mid17 (G : Gr) (cs bd dr : List Int) (f : Int) : Prop where
  wn : Wn cs.length dr
  good : Gd17 G.n (nbsOf G) cs (bd, f, bitAt dr)
  deg : ∀ v : Nat, bd.getD v 0 ≤ ((nbsOf G v).length : Int)
theorem Idle.mid {G : Gr} {cs bd dr : List Int} (h : Idle G cs bd dr) : Mid17 G cs bd dr 0 := ⟨h.wn, h.good, h.deg⟩
/-- A read of a graph's lists of the shard that is called. -/
theorem read_is {G : Gr} {cs bd dr : List Int} {f : Int} (hG : G.Ok) (hn : G.n ≤ 400) (hC : Cuts G.n cs) (hl : cs.length ≤ 401) (H : Mid17 G cs bd dr f) (p : Int) (u : Bool) (q : Int) (k : List Int) {s : Nat} (hs : s < cs.length) :
    Lists.pre (some G) (lowC cs s) (lowC cs (s + 1)) = true ∧ ReadE.pre (some cs) (degOf G) bd dr p u q (s : Int) k (s : Int) (Lists.fn (some G) (lowC cs s) (lowC cs (s + 1))).1 = true ∧
    ∃ k' bd' dr' g, ReadE.fn (some cs) (degOf G) bd dr p u q (s : Int) k (s : Int) (Lists.fn (some G) (lowC cs s) (lowC cs (s + 1))).1 = ((some cs, degOf G, bd', dr', p, u, (s : Int) + 1, -1, k', false), g, 0, ()) ∧
      readS (nbsOf G) cs s (bd, f, bitAt dr) = (bd', f + g, bitAt dr') ∧ Mid17 G cs bd' dr' (f + g) ∧ 0 ≤ g ∧ g ≤ 400 ∧
      Fell (bd, 0, bitAt dr) (bd', g, bitAt dr') (lowC cs s).toNat (lowC cs (s + 1)).toNat := by
  have b1 := hC.lt hs
  have b2 := hC.low0 (s := s) (by omega)
  have b3 := hC.lown (s := s + 1) (by omega)
  obtain ⟨lo, hlo⟩ : ∃ lo : Nat, lowC cs s = (lo : Int) := ⟨(lowC cs s).toNat, by omega⟩
  obtain ⟨hi, hhi⟩ : ∃ hi : Nat, lowC cs (s + 1) = (hi : Int) := ⟨(lowC cs (s + 1)).toNat, by omega⟩
  rw [hlo, hhi] at b1 ⊢
  rw [hhi] at b3
  have hN := nbs_G hG
  have hL : (Lists.fn (some G) (lo : Int) (hi : Int)).1 = listsV (nbsOf G) (List.range' lo (hi - lo)) := lists_is G (by omega) (by omega)
  have hP : Lists.pre (some G) (lo : Int) (hi : Int) = true := and_need rfl (and_need (by simp [wf]; omega) (by simp [wf]; omega))
  rw [hL]
  have hdg : ∀ v, (degOf G).getD v 0 ≤ 1048576 := fun v => by
    by_cases hv : v < G.n
    · rw [degOf_get hv]
      have := G.nb_length_le v
      omega
    · rw [getD_out (by rw [degOf_len]; omega)]; decide
  have hbl : bd.length = G.n := H.good.len
  have hb0 : ∀ j, 0 ≤ bd.getD j 0 := H.good.nonneg
  have hb1 : ∀ j, bd.getD j 0 ≤ 1099511627776 := fun j => by
    have := H.deg j
    have := nb_le G j
    omega
  have hmem : ∀ x ∈ listsV (nbsOf G) (List.range' lo (hi - lo)), ∀ u ∈ x.2, shN cs u ≤ cs.length := fun x hx u hu => by
    unfold listsV at hx
    obtain ⟨v, hv, rfl⟩ := List.mem_map.1 hx
    have hv := List.mem_range'.1 (List.mem_filter.1 hv).1
    obtain ⟨i, _, e⟩ := hv
    have := hN.rng v (by omega) u hu
    exact Nat.le_of_lt (sh_at hC this.1 this.2).1
  have hll : (listsV (nbsOf G) (List.range' lo (hi - lo))).length ≤ 400 := by
    unfold listsV
    rw [List.length_map]
    have := List.length_filter_le (fun v => decide (0 < (nbsOf G v).length)) (List.range' lo (hi - lo))
    rw [List.length_range'] at this
    omega
  have hfit : fitsB (degOf G) G.n (List.range' (lowC cs s).toNat ((lowC cs (s + 1)).toNat - (lowC cs s).toNat)) (listsV (nbsOf G) (List.range' lo (hi - lo))) = true := by
    rw [hlo, hhi, Int.toNat_natCast, Int.toNat_natCast]
    refine fitsB_lists hN (fun v _ => nb_sorted G v) (fun v hv => by rw [degOf_get hv, up_length]) _ (fun v hv => ?_)
    obtain ⟨i, _, e⟩ := List.mem_range'.1 hv
    omega
  obtain ⟨r1, k', r2⟩ := ReadE.ok17 hC (by omega) (by omega) (degOf_len G) hdg hbl hb0 hb1 H.wn p u q k hs (ls := listsV (nbsOf G) (List.range' lo (hi - lo))) (by omega) (fun i => by
    by_cases hi' : i < (listsV (nbsOf G) (List.range' lo (hi - lo))).length
    · have hm := mem_getD (0, []) _ i hi'
      generalize (listsV (nbsOf G) (List.range' lo (hi - lo))).getD i (0, []) = x at hm
      unfold listsV at hm
      obtain ⟨v, hv, rfl⟩ := List.mem_map.1 hm
      have := nb_le G v
      show (nbsOf G v).length < _
      omega
    · rw [getD_out (by omega)]; decide) hfit
  obtain ⟨w1, w2⟩ := readW_ok (cs := cs) (s := s) (listsV (nbsOf G) (List.range' lo (hi - lo))) (bd := bd) (f := 0) (H.wn.clrBit s) hmem
  rw [readL_lists (fun v => H.deg v), bit_clrF H.wn (by omega)] at w2
  have wf' := readW_falls cs s (listsV (nbsOf G) (List.range' lo (hi - lo))) (bd, 0, clrBit dr s)
  rcases hr : readW cs s (listsV (nbsOf G) (List.range' lo (hi - lo))) (bd, 0, clrBit dr s) with ⟨bd', g, dr'⟩
  rw [hr] at r2 w1 w2 wf'
  simp only at r2 w1 w2 wf'
  have hS : readS (nbsOf G) cs s (bd, f, bitAt dr) = (bd', f + g, bitAt dr') := by
    unfold readS
    rw [hlo, hhi, Int.toNat_natCast, Int.toNat_natCast]
    simp only
    rw [readTo_shift, ← w2]
  refine ⟨hP, r1, k', bd', dr', g, r2, hS, ⟨w1, ?_, fun v => ?_⟩, wf'.1, by omega, ?_⟩
  · have := H.good.read hN hC hs
    rw [hS] at this
    exact this
  · have := readS_le (nbsOf G) cs s (bd, f, bitAt dr) v
    rw [hS] at this
    exact Int.le_trans this (H.deg v)
  · rw [Int.toNat_natCast, Int.toNat_natCast]
    have := readTo_fell (nbs := nbsOf G) (cs := cs) (s := s) (st0 := (bd, 0, clrF (bitAt dr) s)) (lo := lo) (hi - lo) (by show lo + (hi - lo) ≤ bd.length; omega)
    rw [← w2, show lo + (hi - lo) = hi by omega] at this
    exact ⟨this.out, this.le, this.len, this.falls⟩
theorem leastN_F {dr : List Int} {p s : Nat} (h : LeastF (bitAt dr) p s) : leastN dr p = (s : Int) := leastN_some ⟨h.1, h.2.1, h.2.2⟩
/-- One pass of a search. -/
theorem goes.is {G : Gr} {cs bd dr : List Int} (H : Idle G cs bd dr) (hd : dirtyW dr = true) {p : Int} (hp : 0 ≤ p ∧ p < 4611686018427387000) {q : Nat} (hq : q < 1000) (c : Int) (k : List Int) :
    goes.pre (some cs) (degOf G) bd dr p false (q : Int) c k (some G) (some cs) = true ∧ ∃ (l : List Nat) (bd' dr' : List Int) (f : Int) (q' : Nat) (k' : List Int),
      goes.fn (some cs) (degOf G) bd dr p false (q : Int) c k (some G) (some cs) = ((some cs, degOf G, bd', dr', p + 1, false, (q' : Int), -1, k', false), (up l, f, bd'), true, ()) ∧
      Wn cs.length dr' ∧ q' < 1000 ∧ Pass (nbsOf G) cs 0 (bd, 0, bitAt dr) l (bd', f, bitAt dr') := by
  have hC := H.cuts
  have hl := H.len
  have hn := H.small
  obtain ⟨l, R, hpass⟩ := pass_ex (nbs_G H.ok) hC cs.length 0 (st := (bd, 0, bitAt dr)) (by omega) H.good
  have hll := (pass_is (nbs_G H.ok) hC H.good hpass).2.2.2.2.2.2
  have hS : Shards.pre (some cs) = true ∧ Shards.fn (some cs) = ((cs.length : Int), ()) := Shards.is_fn _ rfl
  have key := goes.F4_inv (g1 := some G) (k2 := some cs) (was9 := p) (c5x1 := 0) (r8 := [])
    (fun i c0 p' u q' c' r1 r2 r3 r4 f r7 => ∃ (a b : List Nat) (m : Nat), a ++ b = l ∧ i = (a.length : Int) ∧ some cs = c0 ∧ p = p' ∧ q' = (m : Int) ∧ m < 1000 ∧ degOf G = r1 ∧ r7 = up a ∧ Mid17 G cs r2 r3 f ∧ 0 ≤ f ∧ f ≤ 400 * a.length ∧ (u = false → dirtyW r3 = true) ∧ Pass (nbsOf G) cs (if u = true then m else 0) (r2, f, bitAt r3) b R)
    (fun i _ _ _ _ _ _ _ _ _ _ _ => 1000 - i.toNat)
    (fun z => ∃ (bd' dr' : List Int) (f : Int) (q' : Nat) (k' : List Int), z = Sum.inl ((true, ()), ((some cs, p + 1, false, (q' : Int), -1, ()), degOf G, bd', dr', k', (up l, f, bd', ()), ())) ∧ Wn cs.length dr' ∧ q' < 1000 ∧ R = (bd', f, bitAt dr'))
    (fun i c0 p' u q' c' r1 r2 r3 r4 f r7 hI => by
      obtain ⟨a, b, m, hab, rfl, rfl, rfl, rfl, hm, rfl, rfl, M, hf0, hf1, hu, hP⟩ := hI
      have hal : a.length ≤ cs.length := by
        have : (a ++ b).length ≤ cs.length := by rw [hab]; exact hll
        rw [List.length_append] at this
        omega
      unfold goes.R4
      rw [hS.2]
      refine led_need hS.1 (led_dif (fun q1 => ?_) (fun q1 => absurd (by show ((a.length : Nat) : Int) ≤ (cs.length : Int); omega) q1))
      obtain ⟨x1, x2⟩ := NextE.is (M.wn.wds (by omega)) (some cs) (degOf G) r2 (p := p) ⟨hp.1, by omega⟩ u m (by omega) c' r4
      refine led_need x1 ?_
      have hbl : r2.length = G.n := M.good.len
      cases hP with
      | stop hstop =>
        cases u with
        | false =>
          have h1 := hu rfl
          obtain ⟨t, ht⟩ := (dirtyW_iff r3).1 h1
          have h2 := hstop t (Nat.zero_le _)
          have h2 : bitAt r3 t = false := h2
          rw [ht] at h2; cases h2
        | true =>
          have h2 : leastN r3 m = -1 := leastN_none hstop
          simp only [if_true, h2] at x2
          rw [if_neg (by simp), if_pos (by decide)] at x2
          rw [x2]
          obtain ⟨y1, y2⟩ := BoundsE.is (some cs) (degOf G) r2 r3 (by omega) (p + 1) false (m : Int) (-1) r4
          obtain ⟨z1, z2⟩ := PassesE.is (some cs) (degOf G) r2 r3 (p + 1) false (m : Int) (-1) r4
          have iv : IntsV.pre r2 = true := decide_eq_true (by omega)
          have hw : IntKind.wrap .i64 (p + 1) = p + 1 := wr (by omega) (by omega)
          simp only [letZ, y1, y2, z1, z2, iv, if_true, show decide ((-1 : Int) < 0) = true from rfl, bothK_same, hw, beq_self_eq_true]
          rw [List.append_nil] at hab
          subst hab
          exact led_x ⟨r2, r3, f, m, r4, rfl, M.wn, hm, rfl⟩
      | @read _ s _ _ b' hs hP' =>
        have hsl : s < cs.length := Nat.not_le.1 fun h => by
          have := M.good.inn s h
          have h2 : bitAt r3 s = true := hs.2.1
          have this : bitAt r3 s = false := this
          rw [h2] at this; cases this
        have h2 := leastN_F hs
        have x2' : NextE.fn (some cs) (degOf G) r2 r3 p u (m : Int) c' r4 = ((some cs, degOf G, r2, r3, p, true, (if u = true then (m : Int) else 0), (s : Int), r4, false), (s : Int), ()) := by
          rw [x2, h2]
          rw [if_neg (by
            rintro ⟨hu', hneg⟩
            have h3 := hu hu'
            unfold dirtyW at h3
            rw [decide_eq_true_eq] at h3
            exact h3 hneg), if_neg (by omega)]
        rw [x2']
        obtain ⟨rg1, rg2⟩ := RangeL.is (by omega) hsl
        obtain ⟨l1, l2, k', bd', dr', g, l3, l4, l5, l6, l7, _⟩ := read_is H.ok hn hC hl M p true (if u = true then (m : Int) else 0) r4 hsl
        have n1 : ¬ ((s : Int) < 0) := by omega
        have n2 : ¬ ((s : Int) ≥ (cs.length : Int)) := by omega
        have n3 : ¬ (lowC cs (s + 1) ≤ lowC cs s) := by have := hC.lt hsl; omega
        have hw1 : IntKind.wrap .i64 ((a.length : Int) + 1) = (a.length : Int) + 1 := wr (by omega) (by omega)
        have hw2 : IntKind.wrap .i64 (f + g) = f + g := wr (by omega) (by omega)
        have room : ((up a).length + [(s : Int)].length) * 8 ≤ 140737488355328 := by rw [up_length]; simp; omega
        simp only [letZ, n1, n2, n3, rg1, rg2, l1, l2, l3, hS.1, hS.2, (num17.is _).1, (num17.is _).2, decide_false, if_true, if_false, Bool.false_eq_true, hw1, hw2, room, show ((0 : Int) != 0) = false from rfl]
        rw [l4] at hP'
        refine led_k ⟨_, _, _, _, _, _, _, _, _, _, _, _, rfl, ⟨a ++ [s], b', s + 1, by rw [List.append_assoc]; exact hab, by simp, rfl, rfl, by simp, by omega, rfl, by unfold up; simp, l5, by omega, by simp; omega, (fun h => by cases h), hP'⟩, by omega⟩) 0 (some cs) p false (q : Int) c (degOf G) bd dr k 0 [] ⟨[], l, q, rfl, rfl, rfl, rfl, rfl, hq, rfl, rfl, H.mid, by omega, by simp, fun _ => hd, hpass⟩
  obtain ⟨z, hz, bd', dr', f, q', k', rfl, hw, hq', rfl⟩ := key
  obtain ⟨y1, y2⟩ := PassesE.is (some cs) (degOf G) bd dr p false (q : Int) c k
  have run : goes.run' (some cs) (degOf G) bd dr p false (q : Int) c k (some G) (some cs) = some ((some cs, degOf G, bd', dr', p + 1, false, (q' : Int), -1, k', false), some (up l, f, bd'), true, ()) := by
    unfold goes.run'
    simp only [y1, y2, letZ, if_true]
    rw [hz]
  obtain ⟨g1, g2⟩ := goes.is_fn _ _ _ _ _ _ _ _ _ _ _ run
  exact ⟨g1, l, bd', dr', f, q', k', g2, hw, hq', hpass⟩
end Go.Proofs.YthbojpaghbbnnaaDoor.Z
namespace Go.Proofs.YthbojpaghbbnnaaDoor.Z
open Go Go.RowKit Esx
set_option linter.unusedVariables false
set_option linter.unusedSimpArgs false
theorem nb_lt17 {G : Gr} (hG : G.Ok) {v : Nat} (hv : v < G.n) : (G.nb v).length < G.n := by
  have h : (List.filter (G.adj v) (List.range G.n)).length < (List.range G.n).length := by
    rw [List.length_filter_lt_length_iff_exists]
    exact ⟨v, List.mem_range.2 hv, by rw [hG.irr]; simp⟩
  rw [List.length_range] at h
  exact h
theorem mayB_deg {G : Gr} (hG : G.Ok) : mayB G.n (degOf G) = true := by
  unfold mayB
  refine and_need ?_ (decide_eq_true (degOf_len G))
  rw [List.all_eq_true]
  intro x hx
  unfold degOf at hx
  obtain ⟨v, hv, rfl⟩ := List.mem_map.1 hx
  have := nb_lt17 hG (List.mem_range.1 hv)
  simp only [Bool.and_eq_true, decide_eq_true_eq]
  omega
theorem done_is {dr : List Int} (hW : Wds dr) (l : Option (List Int)) (dg bd : List Int) (p : Int) (q c : Int) (k : List Int) :
    DoneE.pre l dg bd dr p false q c k = true ∧ DoneE.fn l dg bd dr p false q c k = ((l, dg, bd, dr, p, false, q, c, k, false), !dirtyW dr, ()) := by
  obtain ⟨h1, h2⟩ := DoneE.is hW l dg bd p false q c k
  refine ⟨h1, h2.trans ?_⟩
  unfold dirtyW
  by_cases h : leastN dr 0 < 0
  · simp [h]
  · simp [h]
theorem degOf_small {G : Gr} (hn : G.n ≤ 400) (i : Nat) : 0 ≤ (degOf G).getD i 0 ∧ (degOf G).getD i 0 ≤ 400 := by
  refine ⟨degOf_nonneg G i, ?_⟩
  by_cases h : i < G.n
  · rw [degOf_get h]
    have := G.nb_length_le i
    omega
  · rw [getD_out (by rw [degOf_len]; omega)]; decide
theorem sumdeg_is {G : Gr} (hn : G.n ≤ 400) : sum17.pre (degOf G) = true ∧ sum17.fn (degOf G) = (Hx.sum (degOf G), ()) ∧ 0 ≤ Hx.sum (degOf G) ∧ Hx.sum (degOf G) ≤ 160000 := by
  obtain ⟨h1, h2⟩ := sum17.is (l := degOf G) (by rw [degOf_len]; omega) (fun i => ⟨(degOf_small hn i).1, Int.le_trans (degOf_small hn i).2 (by decide)⟩)
  refine ⟨h1, h2, Hx.sum_getD_nonneg (degOf_nonneg G), ?_⟩
  have := Hx.sum_le (c := 400) (l := degOf G) (fun x hx => by
    obtain ⟨i, hi, rfl⟩ := (mem_idx 0).1 hx
    exact (degOf_small hn i).2)
  rw [degOf_len] at this
  omega
theorem Idle.sum_le {G : Gr} {cs bd dr : List Int} (h : Idle G cs bd dr) : Hx.sum bd ≤ Hx.sum (degOf G) := sum_mono (by rw [h.blen, degOf_len]) (fun i => by
  by_cases hi : i < G.n
  · rw [degOf_get hi]
    have := h.deg i
    rwa [up_length] at this
  · rw [getD_out (by rw [h.blen]; omega), getD_out (by rw [degOf_len]; omega)]
    exact Int.le_refl _)
theorem Rst17.dirty {n : Nat} {nbs : Nat → List Int} {d : Bool} {b r : List Int} {m : Nat} (h : Rst17 n nbs d b m r) (hd : d = true) : ∃ m', m = m' + 1 ∧ Rst17 n nbs (Hx.sweepTo nbs b n).2.2 (Hx.sweepTo nbs b n).1 m' r := by
  cases h with
  | done _ => cases hd
  | pass h => exact ⟨_, rfl, h⟩
theorem Rst17.clean {n : Nat} {nbs : Nat → List Int} {d : Bool} {b r : List Int} {m : Nat} (h : Rst17 n nbs d b m r) (hd : d = false) : m = 0 ∧ r = b := by
  cases h with
  | done _ => exact ⟨rfl, rfl⟩
  | pass _ => cases hd
end Go.Proofs.YthbojpaghbbnnaaDoor.Z
namespace Go.Proofs.YthbojpaghbbnnaaDoor.Z
open Go Go.RowKit Esx
set_option linter.unusedVariables false
set_option linter.unusedSimpArgs false
theorem EstBounds.F9_is {G : Gr} (hG : G.Ok) (hn : G.n ≤ 400) {cs : List Int} (hC : Cuts G.n cs) (hl : cs.length ≤ 401) (more : List Int) (hc : (coresOf G).length = G.n) (hcd : ∀ v, v < G.n → 0 ≤ (coresOf G).getD v 0 ∧ (coresOf G).getD v 0 ≤ (degOf G).getD v 0) :
    ∃ (es : List Int) (fl : List Bool), EstBounds.F9 more (some G) (some cs) 0 (coresOf G) (degOf G) 0 (List.replicate G.n 0) (List.replicate cs.length false) = some ((some G, some cs, ()), (coresOf G, degOf G, (0, ()), es, fl, ())) ∧ es.length = G.n ∧ fl.length = cs.length ∧ (∀ v, v < G.n → (coresOf G).getD v 0 ≤ es.getD v 0 ∧ es.getD v 0 ≤ (degOf G).getD v 0) ∧ ∀ v, v < G.n → 0 < (degOf G).getD v 0 → fl.getD (shN cs (v : Nat)) false = true := by
  have hdl := degOf_len G
  have key := EstBounds.F9_inv (more3 := more) (g10 := some G) (k11 := some cs) (r0 := coresOf G) (r1 := degOf G) (c2x0 := 0)
    (fun i r3 r4 => ∃ j : Nat, i = (j : Int) ∧ j ≤ G.n ∧ r3.length = G.n ∧ r4.length = cs.length ∧ (∀ v, v < j → (coresOf G).getD v 0 ≤ r3.getD v 0 ∧ r3.getD v 0 ≤ (degOf G).getD v 0) ∧ ∀ v, v < j → 0 < (degOf G).getD v 0 → r4.getD (shN cs (v : Nat)) false = true)
    (fun i _ _ => 1000 - i.toNat)
    (fun z => ∃ (es : List Int) (fl : List Bool), z = ((some G, some cs, ()), (coresOf G, degOf G, (0, ()), es, fl, ())) ∧ es.length = G.n ∧ fl.length = cs.length ∧ (∀ v, v < G.n → (coresOf G).getD v 0 ≤ es.getD v 0 ∧ es.getD v 0 ≤ (degOf G).getD v 0) ∧ ∀ v, v < G.n → 0 < (degOf G).getD v 0 → fl.getD (shN cs (v : Nat)) false = true)
    (fun i r3 r4 hI => by
      obtain ⟨j, rfl, hj, h3, h4, he, hf⟩ := hI
      unfold EstBounds.R9
      refine led_dif (fun q1 => ?_) (fun q1 => led_x ⟨r3, r4, rfl, h3, h4, ?_, ?_⟩)
      · have hjn : j < G.n := by omega
        have hw1 : IntKind.wrap .i64 ((j : Int) + 1) = (j : Int) + 1 := wr (by omega) (by omega)
        obtain ⟨s1, s2⟩ := Shard.is hC (by omega) (v := (j : Int)) (by omega) (by omega)
        have hsh := (sh_at hC (v := (j : Int)) (by omega) (by omega)).1
        have hcj := hcd j hjn
        have hds := degOf_small hn j
        have a0 : (0 : Int) ≤ (j : Int) := by omega
        have a1 : (j : Int) < ((degOf G).length : Int) := by omega
        have a2 : (j : Int) < ((coresOf G).length : Int) := by omega
        have a3 : (j : Int) < (r3.length : Int) := by omega
        have a4 : j < r3.length := by omega
        have a5 : (0 : Int) ≤ (shN cs (j : Int) : Int) := by omega
        have a6 : (shN cs (j : Int) : Int) < (r4.length : Int) := by omega
        have a7 : shN cs (j : Int) < r4.length := by omega
        -- the value that is stored
        have val : ∀ b : Int, 0 ≤ b → b ≤ 1073741824 → IntKind.wrap .i64 ((coresOf G).getD j 0 + b) = (coresOf G).getD j 0 + b := fun b b0 b1 => wr (by omega) (by omega)
        have ho : ∀ (y : Int), (coresOf G).getD j 0 ≤ y → y ≤ (degOf G).getD j 0 →
            (0 < (degOf G).getD j 0 → Led (fun (R : Type) (k' : EstBounds.V9 → Option R) (kx : EstBounds.X9 → Option R) => k' ((more, some G, some cs, (j : Int) + 1, ()), (coresOf G, degOf G, (0, ()), List.set r3 j y, List.set r4 (shN cs (j : Int)) true, ())))
              (fun v' => ∃ (v15' : Int) (r3' : List Int) (r4' : List Bool), v' = ((more, some G, some cs, v15', ()), (coresOf G, degOf G, (0, ()), r3', r4', ())) ∧ (∃ j : Nat, v15' = (j : Int) ∧ j ≤ G.n ∧ r3'.length = G.n ∧ r4'.length = cs.length ∧ (∀ v, v < j → (coresOf G).getD v 0 ≤ r3'.getD v 0 ∧ r3'.getD v 0 ≤ (degOf G).getD v 0) ∧ ∀ v, v < j → 0 < (degOf G).getD v 0 → r4'.getD (shN cs (v : Nat)) false = true) ∧ 1000 - v15'.toNat < 1000 - ((j : Int)).toNat)
              (fun z => ∃ (es : List Int) (fl : List Bool), z = ((some G, some cs, ()), (coresOf G, degOf G, (0, ()), es, fl, ())) ∧ es.length = G.n ∧ fl.length = cs.length ∧ (∀ v, v < G.n → (coresOf G).getD v 0 ≤ es.getD v 0 ∧ es.getD v 0 ≤ (degOf G).getD v 0) ∧ ∀ v, v < G.n → 0 < (degOf G).getD v 0 → fl.getD (shN cs (v : Nat)) false = true)) ∧
            (¬ 0 < (degOf G).getD j 0 → Led (fun (R : Type) (k' : EstBounds.V9 → Option R) (kx : EstBounds.X9 → Option R) => k' ((more, some G, some cs, (j : Int) + 1, ()), (coresOf G, degOf G, (0, ()), List.set r3 j y, r4, ())))
              (fun v' => ∃ (v15' : Int) (r3' : List Int) (r4' : List Bool), v' = ((more, some G, some cs, v15', ()), (coresOf G, degOf G, (0, ()), r3', r4', ())) ∧ (∃ j : Nat, v15' = (j : Int) ∧ j ≤ G.n ∧ r3'.length = G.n ∧ r4'.length = cs.length ∧ (∀ v, v < j → (coresOf G).getD v 0 ≤ r3'.getD v 0 ∧ r3'.getD v 0 ≤ (degOf G).getD v 0) ∧ ∀ v, v < j → 0 < (degOf G).getD v 0 → r4'.getD (shN cs (v : Nat)) false = true) ∧ 1000 - v15'.toNat < 1000 - ((j : Int)).toNat)
              (fun z => ∃ (es : List Int) (fl : List Bool), z = ((some G, some cs, ()), (coresOf G, degOf G, (0, ()), es, fl, ())) ∧ es.length = G.n ∧ fl.length = cs.length ∧ (∀ v, v < G.n → (coresOf G).getD v 0 ≤ es.getD v 0 ∧ es.getD v 0 ≤ (degOf G).getD v 0) ∧ ∀ v, v < G.n → 0 < (degOf G).getD v 0 → fl.getD (shN cs (v : Nat)) false = true)) := fun y y1 y2 => by
          have hE : ∀ v, v < j + 1 → (coresOf G).getD v 0 ≤ (List.set r3 j y).getD v 0 ∧ (List.set r3 j y).getD v 0 ≤ (degOf G).getD v 0 := fun v hv => by
            rw [getD_setP]
            by_cases e : j = v
            · subst e; rw [if_pos ⟨rfl, a4⟩]; exact ⟨y1, y2⟩
            · rw [if_neg (fun h => e h.1)]; exact he v (by omega)
          refine ⟨fun hp => led_k ⟨_, _, _, rfl, ⟨j + 1, by omega, by omega, by simpa using h3, by simpa using h4, hE, fun v hv hvp => ?_⟩, by omega⟩, fun hp => led_k ⟨_, _, _, rfl, ⟨j + 1, by omega, by omega, by simpa using h3, h4, hE, fun v hv hvp => ?_⟩, by omega⟩⟩
          · rw [getD_setP]
            by_cases e : shN cs (j : Int) = shN cs (v : Nat)
            · rw [if_pos ⟨e, a7⟩]
            · rw [if_neg (fun h => e h.1)]
              by_cases e2 : v = j
              · subst e2; exact absurd rfl e
              · exact hf v (by omega) hvp
          · by_cases e2 : v = j
            · subst e2; exact absurd hvp hp
            · exact hf v (by omega) hvp
        have fin : ∀ b : Int, 0 ≤ b → b ≤ 1073741824 → (coresOf G).getD j 0 ≤ pickZ false ((degOf G).getD j 0) ((coresOf G).getD j 0 + b) ∧ pickZ false ((degOf G).getD j 0) ((coresOf G).getD j 0 + b) ≤ (degOf G).getD j 0 := fun b b0 b1 => by
          rw [pickZ_min]
          split <;> omega
        have small : ∀ x : Int, 0 ≤ x → 0 ≤ pickZ false x 1073741824 ∧ pickZ false x 1073741824 ≤ 1073741824 := fun x hx => by
          rw [pickZ_min]
          split <;> omega
        have pos : ∀ x : Int, 0 ≤ pickZ true 0 x := fun x => by
          rw [pickZ_max]
          split <;> omega
        refine led_dif (fun q2 => ?_) (fun q2 => ?_)
        · obtain ⟨b, hb⟩ : ∃ b, pickZ false (pickZ true 0 (more.getD j 0)) 1073741824 = b := ⟨_, rfl⟩
          have hb01 : 0 ≤ b ∧ b ≤ 1073741824 := by rw [← hb]; exact small _ (pos _)
          obtain ⟨f1, f2⟩ := fin b hb01.1 hb01.2
          simp only [Int.toNat_natCast, a0, q2, a1, a2, a3, a4, a5, a6, a7, s1, s2, hw1, hb, val b hb01.1 hb01.2, if_true]
          exact led_dif (fun c => (ho _ f1 f2).1 c) (fun c => (ho _ f1 f2).2 c)
        · obtain ⟨b, hb⟩ : ∃ b, pickZ false 0 1073741824 = b := ⟨_, rfl⟩
          have hb01 : 0 ≤ b ∧ b ≤ 1073741824 := by rw [← hb]; exact small _ (Int.le_refl _)
          obtain ⟨f1, f2⟩ := fin b hb01.1 hb01.2
          simp only [Int.toNat_natCast, a0, a1, a2, a3, a4, a5, a6, a7, s1, s2, hw1, hb, val b hb01.1 hb01.2, if_true]
          exact led_dif (fun c => (ho _ f1 f2).1 c) (fun c => (ho _ f1 f2).2 c)
      · obtain rfl : j = G.n := by omega
        exact he
      · obtain rfl : j = G.n := by omega
        exact hf) 0 (List.replicate G.n 0) (List.replicate cs.length false) ⟨0, rfl, by omega, by simp, by simp, fun v h => by omega, fun v h => by omega⟩
  obtain ⟨z, hz, es, fl, rfl, h⟩ := key
  exact ⟨es, fl, hz, h⟩
theorem EstBounds.F21_is {G : Gr} {cs bd dr : List Int} (H : Idle G cs bd dr) {m : Nat} {r : List Int} (hR : Rst17 G.n (nbsOf G) (dirtyW dr) bd m r) (hm : (m : Int) ≤ 1 + Hx.sum (degOf G)) (r0 : List Int) (e : Int) (k0 : List Int) :
    ∃ (j q' : Nat) (dr' : List Int) (c' : Int) (k' : List Int), EstBounds.F21 (some G) (some cs) (degOf G) 0 r0 (some cs) 0 false 0 e (degOf G) bd dr k0 = some (Sum.inr ((), (r0, (some cs, (j : Int), false, (q' : Int), c', ()), degOf G, r, dr', k', ()))) ∧ Idle G cs r dr' ∧ dirtyW dr' = false := by
  have hG := H.ok
  have hn := H.small
  obtain ⟨s1, s2, s3, s4⟩ := sumdeg_is (G := G) hn
  have key := EstBounds.F21_inv (g10 := some G) (k11 := some cs) (d13 := degOf G) (r0 := r0)
    (fun i c0 pa u0 qa' e0 r2 r3 r4 r5 => ∃ (j m qa : Nat), i = (j : Int) ∧ some cs = c0 ∧ pa = (j : Int) ∧ u0 = false ∧ qa' = (qa : Int) ∧ qa < 1000 ∧ degOf G = r2 ∧ Idle G cs r3 r4 ∧ Rst17 G.n (nbsOf G) (dirtyW r4) r3 m r ∧ (j : Int) + m ≤ 1 + Hx.sum (degOf G))
    (fun i _ _ _ _ _ _ _ _ _ => 1000000 - i.toNat)
    (fun z => ∃ (j q' : Nat) (dr' : List Int) (c' : Int) (k' : List Int), z = Sum.inr ((), (r0, (some cs, (j : Int), false, (q' : Int), c', ()), degOf G, r, dr', k', ())) ∧ Idle G cs r dr' ∧ dirtyW dr' = false)
    (fun i c0 pa u0 qa' e0 r2 r3 r4 r5 hI => by
      obtain ⟨j, m, qa, rfl, rfl, rfl, rfl, rfl, hqa, rfl, A, hr, hj⟩ := hI
      unfold EstBounds.R21
      have hw : IntKind.wrap .i64 (1 + Hx.sum (degOf G)) = 1 + Hx.sum (degOf G) := wr (by omega) (by omega)
      have hbl := A.blen
      obtain ⟨a1, a2⟩ := done_is A.wds (some cs) (degOf G) r3 (j : Int) (qa : Int) e0 r5
      refine led_need s1 ?_
      rw [s2, hw]
      refine led_dif (fun _ => ?_) (fun q1 => absurd (by omega) q1)
      refine led_need a1 ?_
      rw [a2]
      simp only [letZ]
      cases hdir : dirtyW r4 with
      | false =>
        obtain ⟨rfl, rfl⟩ := Rst17.clean hr hdir
        exact led_no (by simp) (led_x ⟨j, qa, r4, e0, r5, rfl, A, hdir⟩)
      | true =>
        obtain ⟨m', rfl, hr'⟩ := Rst17.dirty hr hdir
        obtain ⟨x1', l, bx, dx, fx, qx, kx, x2', x3, x4, x5⟩ := goes.is A hdir (p := (j : Int)) ⟨by omega, by omega⟩ hqa e0 r5
        obtain ⟨A1, A2, A3, A4, A5, A6, A7⟩ := A.pass x3 x5
        have hw1 : IntKind.wrap .i64 ((j : Int) + 1) = (j : Int) + 1 := wr (by omega) (by omega)
        simp only [Bool.not_true, Bool.not_false, Bool.false_eq_true, if_false, x1', x2', if_true, hw1]
        refine led_k ⟨_, _, _, _, _, _, _, _, _, _, rfl, ⟨j + 1, m', qx, by omega, rfl, by omega, rfl, rfl, x4, rfl, A1, ?_, by omega⟩, by omega⟩
        rw [A4, A2]
        exact hr') 0 (some cs) 0 false 0 e (degOf G) bd dr k0 ⟨0, m, 0, rfl, rfl, rfl, rfl, rfl, by decide, rfl, H, hR, by omega⟩
  obtain ⟨z, hz, j, q', dr', c', k', rfl, h⟩ := key
  exact ⟨j, q', dr', c', k', hz, h⟩
theorem EstBounds.holds (n : Int) (pairs : List (Int × Int)) (sizes : List Int) (more : List Int) {A B C D : Prop} (w0 : A) (w1 : B) (w2 : C) (w3 : D) : EstBounds.pre n pairs sizes more = true ∧ EstBounds.fn n pairs sizes more = (true, ()) := by
  obtain ⟨f1, f2⟩ := first17.is
  obtain ⟨p1, p2⟩ := shape.is n pairs sizes
  obtain ⟨hG, hGn, hn⟩ := shG_ok n pairs
  generalize hg : shG n pairs = G at *
  obtain ⟨_, _, c1, c2⟩ := cuts17.is (n := shN' n) (by omega) sizes
  rw [← hGn] at c1 c2 hn p2
  generalize hcs : cutsBy G.n sizes = cs at *
  obtain ⟨d1, d2⟩ := degrees17.is hG
  have hdl := degOf_len G
  have hc := cores_G hG
  have hcl : (coresOf G).length = G.n := hc.len
  have hcn : ∀ j, 0 ≤ (coresOf G).getD j 0 := fun j => by
    by_cases h : j < G.n
    · exact hc.nonneg j h
    · rw [getD_out (by omega)]; exact Int.le_refl _
  have hcd : ∀ v, v < G.n → (coresOf G).getD v 0 ≤ (degOf G).getD v 0 := fun v hv => by
    rw [degOf_get hv]
    have := (hc.isin v hv).lt.2
    rwa [up_length] at this
  have hS : Shards.pre (some cs) = true ∧ Shards.fn (some cs) = ((cs.length : Int), ()) := Shards.is_fn _ rfl
  obtain ⟨es, fl, hF, he, hf, hes, hfl⟩ := EstBounds.F9_is hG (by omega) c1 c2 more hcl (fun v hv => ⟨hcn v, hcd v hv⟩)
  obtain ⟨y1, y2⟩ := FromE.is c1 (by omega) (by omega) (mayB_deg hG) (p := 0) (by omega) (es := es) he (fun v hv => ⟨Int.le_trans (hcn v) (hes v hv).1, (hes v hv).2⟩) (fl := fl) hf
  obtain ⟨w1', w2'⟩ := fromW_ok hf
  have hdeg : ∀ v, v < G.n → (degOf G).getD v 0 = ((nbsOf G v).length : Int) := fun v hv => by rw [degOf_get hv, up_length]
  have X : Idle G cs es (fromW cs.length fl) := Idle.start hG (by omega) c1 c2 he (fun v => by
    by_cases h : v < G.n
    · exact Int.le_trans (hcn v) (hes v h).1
    · rw [getD_out (by omega)]; exact Int.le_refl _) (fun v => by
    by_cases h : v < G.n
    · rw [← hdeg v h]; exact (hes v h).2
    · rw [getD_out (by omega)]; omega) w1' (fun t ht => by rw [w2', getD_out (by omega)]) (fun v hv hp => by
    rw [w2']
    exact hfl v hv (by rw [hdeg v hv]; omega))
  obtain ⟨r, fs, hR, hL⟩ := X.rest
  obtain rfl : r = coresOf G := hL.cores (nbs_G hG) hc (fun v hv => (hes v hv).1)
  have hle := hL.many
  have hrn := Hx.sum_getD_nonneg hcn
  have hsl := X.sum_le
  have s3 := (sumdeg_is (G := G) (by omega)).2.2.1
  obtain ⟨j, q', dr', c', k', hF2, I, hcl'⟩ := EstBounds.F21_is X hR (by split <;> omega) (coresOf G) (-1) []
  obtain ⟨a1, a2⟩ := done_is I.wds (some cs) (degOf G) (coresOf G) (j : Int) (q' : Int) c' k'
  obtain ⟨b1, b2⟩ := BoundsE.is (some cs) (degOf G) (coresOf G) dr' (by omega) (j : Int) false (q' : Int) c' k'
  rw [hcl'] at a2
  have cp : Cores.pre (some G) = true := and_need rfl (decide_eq_true (by show G.n ≤ 4096; omega))
  have cf : Cores.fn (some G) = (coresOf G, ()) := rfl
  have i1 : G.n * 8 ≤ 140737488355328 := by omega
  have i2 : (0 : Int) ≤ (cs.length : Int) := by omega
  have i3 : cs.length * 1 ≤ 140737488355328 := by omega
  have i4 : ((degOf G).length : Int).toNat = G.n := by rw [hdl]; omega
  refine EstBounds.is_fn _ _ _ _ ?_
  unfold EstBounds.run'
  rw [f2, p2]
  simp only [f1, p1, d1, d2, cp, cf, hS.1, hS.2, i1, i2, i3, i4, letZ, if_true, Bool.not_true, Option.isNone_some, Option.getD_some, Bool.false_eq_true, if_false, Int.toNat_natCast]
  rw [hF]
  simp only [y1, y2, if_true, Option.isNone_some, Option.getD_some, Bool.false_eq_true, if_false, (num17.is _).1, (num17.is _).2, show ((0 : Int) != 0) = false from rfl, bothK_same]
  rw [hF2]
  simp only [a1, a2, b1, b2, Bool.not_false, if_true, show SameIntsH.pre (coresOf G) (coresOf G) = true from rfl, SameIntsH.fn, decide_true, i1, i3, bothK_same]
end Go.Proofs.YthbojpaghbbnnaaDoor.Z
namespace Go.Proofs.YthbojpaghbbnnaaDoor.estBounds
open Go Go.ChangeShapes Go.WideShapes Go.ChangeAt Go.RowKit Go.Proofs.YthbojpaghbbnnaaDoor.Z
set_option linter.unusedVariables false
set_option maxRecDepth 100000 in
theorem lifted (os : Os) (started : os.Started) (H : Type) (enc : TypeId × Value → H) :
    ReturnsInHanded {} Tryd.checked os 8 .any (fun w args => (Rows.estBoundsSpec.pre enc Tryd.prog Tryd.f8 [] false w args ∧ laidMetH Tryd.prog Kx.laidT w) ∧ sizedMet enc Tryd.prog Tryd.f8 (OpenSpec.ofChange Rows.estBoundsSpec) false w args) (Rows.estBoundsSpec.post enc Tryd.prog Tryd.f8 false true false false) := by
  refine returnsInHanded_of_change_and (C := Tryd.checked) (X := fun w _ => laidMetH Tryd.prog Kx.laidT w) (fun _ _ _ hh h => h.of_heap hh) Facts.own started (by kernel_rfl) Tryd.func8
    (ChangeSpec.witness_shaped (enc := enc) (C := Tryd.checked) (os := os) (X := fun w _ => laidMetH Tryd.prog Kx.laidT w) false (World.doorLaid Tryd.prog 200 os) #[.int .i64 0, .slice none 0 0, .slice none 0 0, .slice none 0 0] 8 rfl (World.shaped_of_RefB (by kernel_rfl) (by kernel_rfl)) (by kernel_rfl) (by kernel_rfl) (by kernel_rfl) (Kx.door_met os _)) ?_
  intro W base args ds gs before hval0 hW hcnd hsz0 hL _
  have hval : ∀ (j : Nat) t v, Tryd.f8.params[j]? = some t → args[j]? = some v → Value.okWide Tryd.prog W .any base t v := hval0
  have hW' := hW
  obtain ⟨p, q, hA0, hV, rfl, hfz, hnd⟩ := hW
  have hA : DataW.TrodAll enc Tryd.prog W 0 (fun _ => true) true Tryd.f8.params.toList args.toList ds p := hA0
  rw [Tryd.params8] at hA hval
  obtain ⟨v0, vs0, d0, ds0, p0, q0, hargs, rfl, rfl, h0, r0⟩ := trodAll_cons hA
  obtain ⟨v1, vs1, d1, ds1, p1, q1, rfl, rfl, rfl, h1, r1⟩ := trodAll_cons r0
  obtain ⟨v2, vs2, d2, ds2, p2, q2, rfl, rfl, rfl, h2, r2⟩ := trodAll_cons r1
  obtain ⟨v3, vs3, d3, ds3, p3, q3, rfl, rfl, rfl, h3, r3⟩ := trodAll_cons r2
  obtain ⟨rfl, rfl, rfl⟩ := trodAll_nil r3
  obtain rfl : args = #[v0, v1, v2, v3] := by cases args; simp_all
  obtain ⟨rfl, rfl⟩ := trodVars_none hV
  have k0 := h0
  have lt0 : ∀ x ∈ p0, x.block < W.heap.size := by obtain ⟨m, hm⟩ := k0; exact DataW.trod_lt m _ _ _ hm
  obtain ⟨y0, e0⟩ := okWide_int Tryd.underlying3 (hval 0 3 v0 rfl rfl)
  subst e0
  obtain ⟨x0, g0, w0⟩ := ird_of (ρ := rho) (opens_int Tryd.underlying3) rfl h0
  have k1 := h1
  have lt1 : ∀ x ∈ p1, x.block < W.heap.size := by obtain ⟨m, hm⟩ := k1; exact DataW.trod_lt m _ _ _ hm
  obtain ⟨a1, len1, cap1, e1⟩ := okWide_slice Tryd.underlying35 (hval 1 35 v1 rfl rfl)
  subst e1
  obtain ⟨x1, g1, w1⟩ := ird_of (ρ := rho) (opens_list (ρ := rho) Tryd.underlying35 (by kernel_rfl) (opens_two (ρ := rho) Tryd.underlying84 (by kernel_rfl) rfl rfl (opens_int Tryd.underlying3) (opens_int Tryd.underlying3))) rfl h1
  have k2 := h2
  have lt2 : ∀ x ∈ p2, x.block < W.heap.size := by obtain ⟨m, hm⟩ := k2; exact DataW.trod_lt m _ _ _ hm
  obtain ⟨a2, len2, cap2, e2⟩ := okWide_slice Tryd.underlying22 (hval 2 22 v2 rfl rfl)
  subst e2
  obtain ⟨x2, g2, w2⟩ := ird_of (ρ := rho) (opens_list (ρ := rho) Tryd.underlying22 (by kernel_rfl) (opens_int Tryd.underlying3)) rfl h2
  have k3 := h3
  have lt3 : ∀ x ∈ p3, x.block < W.heap.size := by obtain ⟨m, hm⟩ := k3; exact DataW.trod_lt m _ _ _ hm
  obtain ⟨a3, len3, cap3, e3⟩ := okWide_slice Tryd.underlying22 (hval 3 22 v3 rfl rfl)
  subst e3
  obtain ⟨x3, g3, w3⟩ := ird_of (ρ := rho) (opens_list (ρ := rho) Tryd.underlying22 (by kernel_rfl) (opens_int Tryd.underlying3)) rfl h3
  clear hA0 hval0
  obtain ⟨hp, hf⟩ := EstBounds.holds x0 x1 x2 x3 w0 w1 w2 w3
  refine (calls_true (EstBounds.okR).2 rfl (x0, x1, x2, x3, ()) hp (congrArg (·.1) hf) W [.int .i64 y0, .slice a1 len1 cap1, .slice a2 len2 cap2, .slice a3 len3 cap3] (Kx.kok_of_laid hL) ⟨g0, g1, g2, g3, trivial⟩).mono fun e W' ⟨he, bel⟩ => ?_
  subst he
  exact ⟨_, rfl, _, _, _, [], _, [], hW', trodAll_mk1 (shut_bool Tryd.underlying4 _), (trodAll_cons_mk (Below.trod Facts.laidOut (by kernel_rfl) (of_decide_eq_true (by kernel_rfl)) k0 bel lt0) (trodAll_cons_mk (Below.trod Facts.laidOut (by kernel_rfl) (of_decide_eq_true (by kernel_rfl)) k1 bel lt1) (trodAll_cons_mk (Below.trod Facts.laidOut (by kernel_rfl) (of_decide_eq_true (by kernel_rfl)) k2 bel lt2) (trodAll_cons_mk (Below.trod Facts.laidOut (by kernel_rfl) (of_decide_eq_true (by kernel_rfl)) k3 bel lt3) trodAll_mk0)))), rfl, bel.frame _, fun h => by cases h⟩
theorem joined : joinedFacts Tryd.prog 8 Tryd.f8 Rows.estBoundsSpec Rows.estBoundsRow = true :=
  Facts.joined_of Facts.heads Facts.laidOut Facts.mapsRowed Facts.stops Facts.stopKnobs Facts.stopsHeard Facts.plainKeys rfl rfl rfl rfl rfl rfl
    (by kernel_rfl) (by kernel_rfl) (by kernel_rfl) (by kernel_rfl) (by kernel_rfl) (by kernel_rfl) (by kernel_rfl)
theorem over : Rows.estBoundsRow.holds Tryd.pinned (OpenSpec.ofChange Rows.estBoundsSpec) :=
  OpenClaim.holds_of_wide 8 Tryd.f8 rfl rfl rfl rfl rfl rfl rfl ⟨rfl, rfl, rfl, rfl, rfl⟩ rfl rfl rfl rfl rfl (by kernel_rfl) Tryd.func8 joined
    (of_decide_eq_true (by kernel_rfl)) (by unfold Func.isWrapper; first | (rw [if_pos (by decide +kernel)]; kernel_rfl) | (rw [if_neg (by decide +kernel)]; exact ⟨rfl, rfl⟩))
    (fun os started H enc _ => lifted os started H enc)
theorem card : Rows.EstBoundsCardSaid :=
  Claim7.holds_tied_plain_at .later [] [.data] true Rows.estBoundsCard.stood.harness Rows.estBoundsCard.stood.looks
    over (fun _ h => by cases h) (by kernel_rfl) (fun _ h => by cases h) estBounds_row_tie rfl ⟨rfl, rfl⟩ (by kernel_rfl) rfl
    (fun f fn hf hfn => by
      obtain rfl : f = 8 := Option.some.inj ((show Tryd.prog.funcNamed "pith/pithlaw17.EstBounds" = some 8 by kernel_rfl).symm.trans hf) |>.symm
      obtain rfl : fn = Tryd.f8 := (Option.some.inj (Tryd.func8.symm.trans hfn)).symm
      exact ⟨by kernel_rfl, fun j t ht => by
        rw [Tryd.params8] at ht
        have h3 : t ∈ [3, 35, 22, 22] := List.mem_of_getElem? (by simpa using ht)
        simp only [List.mem_cons, List.not_mem_nil, or_false] at h3
        rcases h3 with rfl | rfl | rfl | rfl
        · exact (show Tryd.prog.wantsStandIn 3 = false by kernel_rfl)
        · exact (show Tryd.prog.wantsStandIn 35 = false by kernel_rfl)
        · exact (show Tryd.prog.wantsStandIn 22 = false by kernel_rfl)
        · exact (show Tryd.prog.wantsStandIn 22 = false by kernel_rfl)⟩)
    (by kernel_rfl)
#print axioms card
end Go.Proofs.YthbojpaghbbnnaaDoor.estBounds
namespace Go.Proofs.YthbojpaghbbnnaaDoor
/-- The card, under a short name, for the claim. -/
theorem estBounds_holds : Rows.EstBoundsCardSaid := estBounds.card
end Go.Proofs.YthbojpaghbbnnaaDoor
