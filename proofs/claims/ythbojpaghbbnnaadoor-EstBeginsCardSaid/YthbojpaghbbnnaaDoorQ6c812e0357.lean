/- Proved: the statement EstBegins holds whatever is handed in. Condition: none but those of the row. -/
import Derived.Test.YthbojpaghbbnnaaDoorQ0389cfc7b0
import Derived.Test.YthbojpaghbbnnaaDoorTie
import Derived.Test.YthbojpaghbbnnaaDoorCards
import Derived.Carry
import Derived.SevenTiedAt
namespace Go.Proofs.YthbojpaghbbnnaaDoor.Z
open Go Go.RowKit
set_option linter.unusedVariables false
set_option linter.unusedSimpArgs false
namespace begin17
abbrev ps : List PM := [.val Sa]
abbrev rs : List PM := [.nbx 93 [.v (.ptr Ly), .r 3 I64 false, .r 3 I64 false, .r 97 U64 false, .v I64, .v .bool, .v I64, .v I64, .r 3 I64 true], .nbx 107 [.v (.list I64), .r 3 I64 false, .r 3 I64 false, .r 4 .bool false, .v I64, .v .bool, .v I64, .v I64], .val .bool]
noncomputable abbrev code : Code := (Go.Proofs.Tryd.f11.body.getD .skip)
abbrev sr6 : Shape := ⟨[.un, .box 0 0, .un, .un, .un, .v (.ptr (.one (.list I64))), .un, .row 1, .v I64, .un, .un, .un, .un, .un, .un, .un, .un, .un, .un, .un, .un, .un, .un, .un, .un, .un, .un, .un, .un, .un, .un, .un, .un, .un, .un, .un, .un, .un, .un, .un, .un, .un, .un, .un, .un, .un, .un, .un, .un, .un, .un, .un, .un, .un, .un, .un, .un, .un, .un, .un, .un, .un, .un, .un, .un, .un, .un, .un, .un, .un, .un, .un, .un, .un, .un, .un, .un, .un, .un, .un, .un, .un, .un, .un, .un, .un, .un, .un, .un, .un, .un, .un, .un, .un, .un, .un, .un, .un, .un, .un, .un, .un, .un, .un, .un, .un, .un, .un, .un, .un, .un, .un, .un, .un, .un, .un, .un, .un, .un, .un, .un, .un, .un, .un, .un, .un, .un, .un, .un, .un, .un, .un, .un, .un, .un, .un, .un, .un, .un, .un, .un, .un, .un, .un, .un, .un, .un, .un, .un, .un, .un, .un, .un, .un, .un, .un, .un, .un, .un, .un, .un, .un, .un, .un, .un, .un, .un, .un, .un, .un, .un, .un, .un, .un, .un, .un, .un, .un, .un, .un, .un, .un, .un, .un, .un, .un, .un, .un, .un, .un, .un, .un, .un, .un, .un, .un, .un], [.cells (27 : Go.TypeId) [.v (.list I64), .v (.list I64), .v .bool, .v I64, .v (.list I64), .v (.list .bool)], .row (3 : Go.TypeId) I64]⟩
abbrev xr6 : List Way := [⟨.nm, ⟨[(1, none), (5, none), (7, none), (8, none)]⟩, ⟨[.un, .box 0 0, .un, .un, .un, .v (.ptr (.one (.list I64))), .un, .row 1, .v I64, .box 2 0, .un, .un, .un, .un, .un, .un, .un, .un, .un, .un, .un, .un, .un, .un, .un, .un, .un, .un, .un, .un, .un, .un, .un, .un, .un, .un, .un, .un, .un, .un, .un, .un, .un, .un, .un, .un, .un, .un, .un, .un, .un, .un, .un, .un, .un, .un, .un, .un, .un, .un, .un, .un, .un, .un, .un, .un, .un, .un, .un, .un, .un, .un, .un, .un, .un, .un, .un, .un, .un, .un, .un, .un, .un, .un, .un, .un, .un, .un, .un, .un, .un, .un, .un, .un, .un, .un, .un, .un, .un, .un, .un, .un, .un, .un, .un, .un, .un, .un, .un, .un, .un, .un, .un, .un, .un, .un, .un, .un, .un, .un, .un, .un, .un, .un, .un, .un, .un, .un, .un, .un, .un, .un, .un, .un, .un, .un, .un, .un, .un, .un, .un, .un, .un, .un, .un, .un, .un, .un, .un, .un, .un, .un, .un, .un, .un, .un, .un, .un, .un, .un, .un, .un, .un, .un, .un, .un, .un, .un, .un, .un, .un, .un, .un, .un, .un, .un, .un, .un, .un, .un, .un, .un, .un, .un, .un, .un, .un, .un, .un, .un, .un, .un, .un, .un, .un, .un, .un], [.cells (27 : Go.TypeId) [.v (.list I64), .v (.list I64), .v .bool, .v I64, .v (.list I64), .v (.list .bool)], .row (3 : Go.TypeId) I64, .cells (25 : Go.TypeId) [.v I64, .row 3, .row 4], .row (3 : Go.TypeId) I64, .row (4 : Go.TypeId) .bool]⟩⟩]
abbrev Vr6 : Type := ((Option (List Int)) × Int × Unit) × (((List Int) × (List Int) × Bool × Int × (List Int) × (List Bool) × Unit) × (List Int) × Unit)
abbrev Xr6 : Type := ((Option (List Int)) × Int × Unit) × (((List Int) × (List Int) × Bool × Int × (List Int) × (List Bool) × Unit) × (List Int) × (Int × Unit) × (List Int) × (List Bool) × Unit)
noncomputable def FGr6 (l5 : (Option (List Int))) (n8 : Int) (c0x0 : (List Int)) (c0x1 : (List Int)) (c0x2 : Bool) (c0x3 : Int) (c0x4 : (List Int)) (c0x5 : (List Bool)) (r1 : List Int) : Option Xr6 := (if IntsO.pre c0x4 = Bool.true then (if (List.length (IntsO.fn c0x4).1 + List.length [(202 : Int)]) * (8 : Nat) ≤ (140737488355328 : Nat) then (if BoolsO.pre c0x5 = Bool.true then (if (List.length (BoolsO.fn c0x5).1 + List.length [Bool.true]) * (1 : Nat) ≤ (140737488355328 : Nat) then some ((l5, n8, ()), ((c0x0, c0x1, c0x2, c0x3, c0x4, c0x5, ()), r1, (c0x3, ()), (IntsO.fn c0x4).1 ++ [(202 : Int)], (BoolsO.fn c0x5).1 ++ [Bool.true], ()))
 else none)
 else none)
 else none)
 else none)
noncomputable def Lr6 : Lp := ⟨1000006, ⟨[(1, none), (5, none), (7, none), (8, none)]⟩, sr6, xr6, fun v => match v with
  | ((l5, n8, _), ((c0x0, c0x1, c0x2, c0x3, c0x4, c0x5, _), r1, _)) => FGr6 l5 n8 c0x0 c0x1 c0x2 c0x3 c0x4 c0x5 r1⟩
abbrev s21 : Shape := ⟨[.un, .un, .un, .un, .un, .un, .un, .row 0, .un, .box 1 0, .un, .nlp, .v I64, .nlp, .v I64, .v .bool, .v I64, .un, .un, .un, .un, .un, .un, .un, .un, .un, .un, .un, .un, .un, .un, .un, .un, .un, .un, .un, .un, .un, .un, .un, .un, .un, .un, .un, .un, .un, .un, .un, .un, .un, .un, .un, .un, .un, .un, .un, .un, .un, .un, .un, .un, .un, .un, .un, .un, .un, .un, .un, .un, .un, .un, .un, .un, .un, .un, .un, .un, .un, .un, .un, .un, .un, .un, .un, .un, .un, .un, .un, .un, .un, .un, .un, .un, .un, .un, .un, .un, .un, .un, .un, .un, .un, .un, .un, .un, .un, .un, .un, .un, .un, .un, .un, .un, .un, .un, .un, .un, .un, .un, .un, .un, .un, .un, .un, .un, .un, .un, .un, .un, .un, .un, .un, .un, .un, .un, .un, .un, .un, .un, .un, .un, .un, .un, .un, .un, .un, .un, .un, .un, .un, .un, .un, .un, .un, .un, .un, .un, .un, .un, .un, .un, .un, .un, .un, .un, .un, .un, .un, .un, .un, .un, .un, .un, .un, .un, .un, .un, .un, .un, .un, .un, .un, .un, .un, .un, .un, .un, .un, .un, .un, .un, .un, .un, .un, .un, .un, .un], [.row (3 : Go.TypeId) I64, .cells (25 : Go.TypeId) [.v I64, .row 2, .row 3], .row (3 : Go.TypeId) I64, .row (4 : Go.TypeId) .bool]⟩
abbrev x21 : List Way := [⟨(.ex 0), ⟨[(9, none), (11, none), (12, none), (13, none), (14, none), (15, none)]⟩, ⟨[.un, .un, .un, .un, .un, .un, .un, .un, .un, .box 0 0, .un, .nlp, .v I64, .nlp, .v I64, .v .bool, .un, .un, .un, .un, .un, .un, .un, .un, .un, .un, .un, .un, .un, .un, .un, .un, .un, .un, .un, .un, .un, .un, .un, .un, .un, .un, .un, .un, .un, .un, .un, .un, .un, .un, .un, .un, .un, .un, .un, .un, .un, .un, .un, .un, .un, .un, .un, .un, .un, .un, .un, .un, .un, .un, .un, .un, .un, .un, .un, .un, .un, .un, .un, .un, .un, .un, .un, .un, .un, .un, .un, .un, .un, .un, .un, .un, .un, .un, .un, .un, .un, .un, .un, .un, .un, .un, .un, .un, .un, .un, .un, .un, .un, .un, .un, .un, .un, .un, .un, .un, .un, .un, .un, .un, .un, .un, .un, .un, .un, .un, .un, .un, .un, .un, .un, .un, .un, .un, .un, .un, .un, .un, .un, .un, .un, .un, .un, .un, .un, .un, .un, .un, .un, .un, .un, .un, .un, .un, .un, .un, .un, .un, .un, .un, .un, .un, .un, .un, .un, .un, .un, .un, .un, .un, .un, .un, .un, .un, .un, .un, .un, .un, .un, .un, .un, .un, .un, .un, .un, .un, .un, .un, .un, .un, .un, .un, .un, .un, .un, .un, .un], [.cells (25 : Go.TypeId) [.v I64, .row 1, .row 2], .row (3 : Go.TypeId) I64, .row (4 : Go.TypeId) .bool]⟩⟩]
abbrev V21 : Type := (Int × Int × Bool × Int × Unit) × ((List Int) × (Int × Unit) × (List Int) × (List Bool) × Unit)
abbrev X21 : Type := (Int × Int × Bool × Unit) × ((Int × Unit) × (List Int) × (List Bool) × Unit)
noncomputable def R21 {R : Type} (f12 : Int) (g14 : Int) (same15 : Bool) (i16 : Int) (r0 : List Int) (c1x0 : Int) (r2 : List Int) (r3 : List Bool) (k : V21 → Option R) (kx : X21 → Option R) : Option R := (if Decidable.decide (i16 < (↑(List.length r0) : Int)) = Bool.true then (if (0 : Int) ≤ i16 then (if i16 < (↑(List.length r0) : Int) then (if Int.toNat i16 < List.length r0 then k ((f12, g14, same15, IntKind.wrap .i64 (i16 + (1 : Int)), ()), (List.set r0 (Int.toNat i16) (7 : Int), (c1x0, ()), r2, r3, ()))
 else none)
 else none)
 else none)
 else kx (((f12, g14, same15, ()), ((c1x0, ()), r2, r3, ()))))
noncomputable def rd21 : Rd (VO s21) (Xs x21) := fun v k kx => match v with
  | ((f12, g14, same15, i16, _), (r0, (c1x0, _), r2, r3, _)) => R21 f12 g14 same15 i16 r0 c1x0 r2 r3 k kx
noncomputable def F21 (f12 : Int) (g14 : Int) (same15 : Bool) (i16 : Int) (r0 : List Int) (c1x0 : Int) (r2 : List Int) (r3 : List Bool) : Option X21 := finOf rd21 ((f12, g14, same15, i16, ()), (r0, (c1x0, ()), r2, r3, ()))
theorem F21_inv {f12 : Int} {g14 : Int} {same15 : Bool} {c1x0 : Int} {r2 : List Int} {r3 : List Bool} (I : Int → List Int → Prop) (μ : Int → List Int → Nat) (Q : X21 → Prop) (h : ∀ (i16 : Int) (r0 : List Int), I i16 r0 → Led (fun (R : Type) (k : V21 → Option R) (kx : X21 → Option R) => R21 f12 g14 same15 i16 r0 c1x0 r2 r3 k kx) (fun v => ∃ (i16' : Int) (r0' : List Int), v = ((f12, g14, same15, i16', ()), (r0', (c1x0, ()), r2, r3, ())) ∧ I i16' r0' ∧ μ i16' r0' < μ i16 r0) Q) : ∀ (i16 : Int) (r0 : List Int), I i16 r0 → ∃ z, F21 f12 g14 same15 i16 r0 c1x0 r2 r3 = some z ∧ Q z := fun i16 r0 hi => by
  refine finOf_inv (V := V21) (X := X21) (rd := rd21) (fun v => ∃ (i16' : Int) (r0' : List Int), v = ((f12, g14, same15, i16', ()), (r0', (c1x0, ()), r2, r3, ())) ∧ I i16' r0') (fun v => match v with
    | ((f12, g14, same15, i16, _), (r0, (c1x0, _), r2, r3, _)) => μ i16 r0) Q (fun v hv => ?_) ((f12, g14, same15, i16, ()), (r0, (c1x0, ()), r2, r3, ())) ⟨i16, r0, rfl, hi⟩
  obtain ⟨i16, r0, rfl, hi⟩ := hv
  refine led_mono (h i16 r0 hi) ?_ (fun _ q => q)
  rintro v ⟨i16', r0', rfl, h1, h2⟩
  exact ⟨⟨i16', r0', rfl, h1⟩, h2⟩
noncomputable def L21 : Lp := ⟨21, ⟨[(7, none), (9, none), (11, none), (12, none), (13, none), (14, none), (15, none), (16, none)]⟩, s21, x21, fun v => match v with
  | ((f12, g14, same15, i16, _), (r0, (c1x0, _), r2, r3, _)) => F21 f12 g14 same15 i16 r0 c1x0 r2 r3⟩
theorem ends21 : Ends L21 rd21 := ends_fin (fun v => by
  obtain ⟨⟨f12, g14, same15, i16, _⟩, ⟨r0, ⟨c1x0, _⟩, r2, r3, _⟩⟩ := v
  rfl)
abbrev s25 : Shape := ⟨[.un, .un, .un, .un, .un, .un, .un, .un, .un, .box 0 0, .un, .nlp, .v I64, .nlp, .v I64, .v .bool, .un, .v I64, .un, .un, .un, .un, .un, .un, .un, .un, .un, .un, .un, .un, .un, .un, .un, .un, .un, .un, .un, .un, .un, .un, .un, .un, .un, .un, .un, .un, .un, .un, .un, .un, .un, .un, .un, .un, .un, .un, .un, .un, .un, .un, .un, .un, .un, .un, .un, .un, .un, .un, .un, .un, .un, .un, .un, .un, .un, .un, .un, .un, .un, .un, .un, .un, .un, .un, .un, .un, .un, .un, .un, .un, .un, .un, .un, .un, .un, .un, .un, .un, .un, .un, .un, .un, .un, .un, .un, .un, .un, .un, .un, .un, .un, .un, .un, .un, .un, .un, .un, .un, .un, .un, .un, .un, .un, .un, .un, .un, .un, .un, .un, .un, .un, .un, .un, .un, .un, .un, .un, .un, .un, .un, .un, .un, .un, .un, .un, .un, .un, .un, .un, .un, .un, .un, .un, .un, .un, .un, .un, .un, .un, .un, .un, .un, .un, .un, .un, .un, .un, .un, .un, .un, .un, .un, .un, .un, .un, .un, .un, .un, .un, .un, .un, .un, .un, .un, .un, .un, .un, .un, .un, .un, .un, .un, .un, .un, .un, .un, .un], [.cells (25 : Go.TypeId) [.v I64, .row 1, .row 2], .row (3 : Go.TypeId) I64, .row (4 : Go.TypeId) .bool]⟩
abbrev x25 : List Way := [⟨(.ex 2), ⟨[(9, none), (11, none), (12, none), (13, none), (14, none), (15, none)]⟩, ⟨[.un, .un, .un, .un, .un, .un, .un, .un, .un, .box 0 0, .un, .nlp, .v I64, .nlp, .v I64, .v .bool, .un, .un, .un, .un, .un, .un, .un, .un, .un, .un, .un, .un, .un, .un, .un, .un, .un, .un, .un, .un, .un, .un, .un, .un, .un, .un, .un, .un, .un, .un, .un, .un, .un, .un, .un, .un, .un, .un, .un, .un, .un, .un, .un, .un, .un, .un, .un, .un, .un, .un, .un, .un, .un, .un, .un, .un, .un, .un, .un, .un, .un, .un, .un, .un, .un, .un, .un, .un, .un, .un, .un, .un, .un, .un, .un, .un, .un, .un, .un, .un, .un, .un, .un, .un, .un, .un, .un, .un, .un, .un, .un, .un, .un, .un, .un, .un, .un, .un, .un, .un, .un, .un, .un, .un, .un, .un, .un, .un, .un, .un, .un, .un, .un, .un, .un, .un, .un, .un, .un, .un, .un, .un, .un, .un, .un, .un, .un, .un, .un, .un, .un, .un, .un, .un, .un, .un, .un, .un, .un, .un, .un, .un, .un, .un, .un, .un, .un, .un, .un, .un, .un, .un, .un, .un, .un, .un, .un, .un, .un, .un, .un, .un, .un, .un, .un, .un, .un, .un, .un, .un, .un, .un, .un, .un, .un, .un, .un, .un, .un, .un, .un], [.cells (25 : Go.TypeId) [.v I64, .row 1, .row 2], .row (3 : Go.TypeId) I64, .row (4 : Go.TypeId) .bool]⟩⟩]
abbrev V25 : Type := (Int × Int × Bool × Int × Unit) × ((Int × Unit) × (List Int) × (List Bool) × Unit)
abbrev X25 : Type := (Int × Int × Bool × Unit) × ((Int × Unit) × (List Int) × (List Bool) × Unit)
noncomputable def R25 {R : Type} (f12 : Int) (g14 : Int) (same15 : Bool) (i17 : Int) (c0x0 : Int) (r1 : List Int) (r2 : List Bool) (k : V25 → Option R) (kx : X25 → Option R) : Option R := (if Decidable.decide (i17 < (↑(List.length r1) : Int)) = Bool.true then (if (0 : Int) ≤ i17 then (if i17 < (↑(List.length r1) : Int) then (if Int.toNat i17 < List.length r1 then k ((f12, g14, same15, IntKind.wrap .i64 (i17 + (1 : Int)), ()), ((c0x0, ()), List.set r1 (Int.toNat i17) (0 : Int), r2, ()))
 else none)
 else none)
 else none)
 else kx (((f12, g14, same15, ()), ((c0x0, ()), r1, r2, ()))))
noncomputable def rd25 : Rd (VO s25) (Xs x25) := fun v k kx => match v with
  | ((f12, g14, same15, i17, _), ((c0x0, _), r1, r2, _)) => R25 f12 g14 same15 i17 c0x0 r1 r2 k kx
noncomputable def F25 (f12 : Int) (g14 : Int) (same15 : Bool) (i17 : Int) (c0x0 : Int) (r1 : List Int) (r2 : List Bool) : Option X25 := finOf rd25 ((f12, g14, same15, i17, ()), ((c0x0, ()), r1, r2, ()))
theorem F25_inv {f12 : Int} {g14 : Int} {same15 : Bool} {c0x0 : Int} {r2 : List Bool} (I : Int → List Int → Prop) (μ : Int → List Int → Nat) (Q : X25 → Prop) (h : ∀ (i17 : Int) (r1 : List Int), I i17 r1 → Led (fun (R : Type) (k : V25 → Option R) (kx : X25 → Option R) => R25 f12 g14 same15 i17 c0x0 r1 r2 k kx) (fun v => ∃ (i17' : Int) (r1' : List Int), v = ((f12, g14, same15, i17', ()), ((c0x0, ()), r1', r2, ())) ∧ I i17' r1' ∧ μ i17' r1' < μ i17 r1) Q) : ∀ (i17 : Int) (r1 : List Int), I i17 r1 → ∃ z, F25 f12 g14 same15 i17 c0x0 r1 r2 = some z ∧ Q z := fun i17 r1 hi => by
  refine finOf_inv (V := V25) (X := X25) (rd := rd25) (fun v => ∃ (i17' : Int) (r1' : List Int), v = ((f12, g14, same15, i17', ()), ((c0x0, ()), r1', r2, ())) ∧ I i17' r1') (fun v => match v with
    | ((f12, g14, same15, i17, _), ((c0x0, _), r1, r2, _)) => μ i17 r1) Q (fun v hv => ?_) ((f12, g14, same15, i17, ()), ((c0x0, ()), r1, r2, ())) ⟨i17, r1, rfl, hi⟩
  obtain ⟨i17, r1, rfl, hi⟩ := hv
  refine led_mono (h i17 r1 hi) ?_ (fun _ q => q)
  rintro v ⟨i17', r1', rfl, h1, h2⟩
  exact ⟨⟨i17', r1', rfl, h1⟩, h2⟩
noncomputable def L25 : Lp := ⟨25, ⟨[(9, none), (11, none), (12, none), (13, none), (14, none), (15, none), (17, none)]⟩, s25, x25, fun v => match v with
  | ((f12, g14, same15, i17, _), ((c0x0, _), r1, r2, _)) => F25 f12 g14 same15 i17 c0x0 r1 r2⟩
theorem ends25 : Ends L25 rd25 := ends_fin (fun v => by
  obtain ⟨⟨f12, g14, same15, i17, _⟩, ⟨⟨c0x0, _⟩, r1, r2, _⟩⟩ := v
  rfl)
abbrev s29 : Shape := ⟨[.un, .un, .un, .un, .un, .un, .un, .un, .un, .box 0 0, .un, .nlp, .v I64, .nlp, .v I64, .v .bool, .un, .un, .v I64, .un, .un, .un, .un, .un, .un, .un, .un, .un, .un, .un, .un, .un, .un, .un, .un, .un, .un, .un, .un, .un, .un, .un, .un, .un, .un, .un, .un, .un, .un, .un, .un, .un, .un, .un, .un, .un, .un, .un, .un, .un, .un, .un, .un, .un, .un, .un, .un, .un, .un, .un, .un, .un, .un, .un, .un, .un, .un, .un, .un, .un, .un, .un, .un, .un, .un, .un, .un, .un, .un, .un, .un, .un, .un, .un, .un, .un, .un, .un, .un, .un, .un, .un, .un, .un, .un, .un, .un, .un, .un, .un, .un, .un, .un, .un, .un, .un, .un, .un, .un, .un, .un, .un, .un, .un, .un, .un, .un, .un, .un, .un, .un, .un, .un, .un, .un, .un, .un, .un, .un, .un, .un, .un, .un, .un, .un, .un, .un, .un, .un, .un, .un, .un, .un, .un, .un, .un, .un, .un, .un, .un, .un, .un, .un, .un, .un, .un, .un, .un, .un, .un, .un, .un, .un, .un, .un, .un, .un, .un, .un, .un, .un, .un, .un, .un, .un, .un, .un, .un, .un, .un, .un, .un, .un, .un, .un, .un, .un], [.cells (25 : Go.TypeId) [.v I64, .row 1, .row 2], .row (3 : Go.TypeId) I64, .row (4 : Go.TypeId) .bool]⟩
abbrev x29 : List Way := [⟨(.ex 4), ⟨[(11, none), (12, none), (13, none), (14, none), (15, none)]⟩, ⟨[.un, .un, .un, .un, .un, .un, .un, .un, .un, .un, .un, .nlp, .v I64, .nlp, .v I64, .v .bool, .un, .un, .un, .un, .un, .un, .un, .un, .un, .un, .un, .un, .un, .un, .un, .un, .un, .un, .un, .un, .un, .un, .un, .un, .un, .un, .un, .un, .un, .un, .un, .un, .un, .un, .un, .un, .un, .un, .un, .un, .un, .un, .un, .un, .un, .un, .un, .un, .un, .un, .un, .un, .un, .un, .un, .un, .un, .un, .un, .un, .un, .un, .un, .un, .un, .un, .un, .un, .un, .un, .un, .un, .un, .un, .un, .un, .un, .un, .un, .un, .un, .un, .un, .un, .un, .un, .un, .un, .un, .un, .un, .un, .un, .un, .un, .un, .un, .un, .un, .un, .un, .un, .un, .un, .un, .un, .un, .un, .un, .un, .un, .un, .un, .un, .un, .un, .un, .un, .un, .un, .un, .un, .un, .un, .un, .un, .un, .un, .un, .un, .un, .un, .un, .un, .un, .un, .un, .un, .un, .un, .un, .un, .un, .un, .un, .un, .un, .un, .un, .un, .un, .un, .un, .un, .un, .un, .un, .un, .un, .un, .un, .un, .un, .un, .un, .un, .un, .un, .un, .un, .un, .un, .un, .un, .un, .un, .un, .un, .un, .un, .un], []⟩⟩]
abbrev V29 : Type := (Int × Int × Bool × Int × Unit) × ((Int × Unit) × (List Int) × (List Bool) × Unit)
abbrev X29 : Type := (Int × Int × Bool × Unit) × (Unit)
noncomputable def R29 {R : Type} (f12 : Int) (g14 : Int) (same15 : Bool) (i18 : Int) (c0x0 : Int) (r1 : List Int) (r2 : List Bool) (k : V29 → Option R) (kx : X29 → Option R) : Option R := (if Decidable.decide (i18 < (↑(List.length r2) : Int)) = Bool.true then (if (0 : Int) ≤ i18 then (if i18 < (↑(List.length r2) : Int) then (if (0 : Int) ≤ i18 then (if i18 < (↑(List.length r2) : Int) then (if Int.toNat i18 < List.length r2 then k ((f12, g14, same15, IntKind.wrap .i64 (i18 + (1 : Int)), ()), ((c0x0, ()), r1, List.set r2 (Int.toNat i18) !List.getD r2 (Int.toNat i18) Bool.false, ()))
 else none)
 else none)
 else none)
 else none)
 else none)
 else kx (((f12, g14, same15, ()), (()))))
noncomputable def rd29 : Rd (VO s29) (Xs x29) := fun v k kx => match v with
  | ((f12, g14, same15, i18, _), ((c0x0, _), r1, r2, _)) => R29 f12 g14 same15 i18 c0x0 r1 r2 k kx
noncomputable def F29 (f12 : Int) (g14 : Int) (same15 : Bool) (i18 : Int) (c0x0 : Int) (r1 : List Int) (r2 : List Bool) : Option X29 := finOf rd29 ((f12, g14, same15, i18, ()), ((c0x0, ()), r1, r2, ()))
theorem F29_inv {f12 : Int} {g14 : Int} {same15 : Bool} {c0x0 : Int} {r1 : List Int} (I : Int → List Bool → Prop) (μ : Int → List Bool → Nat) (Q : X29 → Prop) (h : ∀ (i18 : Int) (r2 : List Bool), I i18 r2 → Led (fun (R : Type) (k : V29 → Option R) (kx : X29 → Option R) => R29 f12 g14 same15 i18 c0x0 r1 r2 k kx) (fun v => ∃ (i18' : Int) (r2' : List Bool), v = ((f12, g14, same15, i18', ()), ((c0x0, ()), r1, r2', ())) ∧ I i18' r2' ∧ μ i18' r2' < μ i18 r2) Q) : ∀ (i18 : Int) (r2 : List Bool), I i18 r2 → ∃ z, F29 f12 g14 same15 i18 c0x0 r1 r2 = some z ∧ Q z := fun i18 r2 hi => by
  refine finOf_inv (V := V29) (X := X29) (rd := rd29) (fun v => ∃ (i18' : Int) (r2' : List Bool), v = ((f12, g14, same15, i18', ()), ((c0x0, ()), r1, r2', ())) ∧ I i18' r2') (fun v => match v with
    | ((f12, g14, same15, i18, _), ((c0x0, _), r1, r2, _)) => μ i18 r2) Q (fun v hv => ?_) ((f12, g14, same15, i18, ()), ((c0x0, ()), r1, r2, ())) ⟨i18, r2, rfl, hi⟩
  obtain ⟨i18, r2, rfl, hi⟩ := hv
  refine led_mono (h i18 r2 hi) ?_ (fun _ q => q)
  rintro v ⟨i18', r2', rfl, h1, h2⟩
  exact ⟨⟨i18', r2', rfl, h1⟩, h2⟩
noncomputable def L29 : Lp := ⟨29, ⟨[(9, none), (11, none), (12, none), (13, none), (14, none), (15, none), (18, none)]⟩, s29, x29, fun v => match v with
  | ((f12, g14, same15, i18, _), ((c0x0, _), r1, r2, _)) => F29 f12 g14 same15 i18 c0x0 r1 r2⟩
theorem ends29 : Ends L29 rd29 := ends_fin (fun v => by
  obtain ⟨⟨f12, g14, same15, i18, _⟩, ⟨⟨c0x0, _⟩, r1, r2, _⟩⟩ := v
  rfl)
abbrev s21v1 : Shape := ⟨[.un, .un, .un, .un, .un, .un, .un, .row 0, .un, .box 1 0, .un, .box 2 0, .v I64, .box 3 0, .v I64, .v .bool, .v I64, .un, .un, .un, .un, .un, .un, .un, .un, .un, .un, .un, .un, .un, .un, .un, .un, .un, .un, .un, .un, .un, .un, .un, .un, .un, .un, .un, .un, .un, .un, .un, .un, .un, .un, .un, .un, .un, .un, .un, .un, .un, .un, .un, .un, .un, .un, .un, .un, .un, .un, .un, .un, .un, .un, .un, .un, .un, .un, .un, .un, .un, .un, .un, .un, .un, .un, .un, .un, .un, .un, .un, .un, .un, .un, .un, .un, .un, .un, .un, .un, .un, .un, .un, .un, .un, .un, .un, .un, .un, .un, .un, .un, .un, .un, .un, .un, .un, .un, .un, .un, .un, .un, .un, .un, .un, .un, .un, .un, .un, .un, .un, .un, .un, .un, .un, .un, .un, .un, .un, .un, .un, .un, .un, .un, .un, .un, .un, .un, .un, .un, .un, .un, .un, .un, .un, .un, .un, .un, .un, .un, .un, .un, .un, .un, .un, .un, .un, .un, .un, .un, .un, .un, .un, .un, .un, .un, .un, .un, .un, .un, .un, .un, .un, .un, .un, .un, .un, .un, .un, .un, .un, .un, .un, .un, .un, .un, .un, .un, .un, .un], [.row (3 : Go.TypeId) I64, .cells (25 : Go.TypeId) [.v I64, .row 4, .row 5], .cells (93 : Go.TypeId) [.v (.ptr (.one (.list I64))), .row 6, .row 7, .row 8, .v I64, .v .bool, .v I64, .v I64, .row 9], .cells (107 : Go.TypeId) [.v (.list I64), .row 10, .row 11, .row 12, .v I64, .v .bool, .v I64, .v I64], .row (3 : Go.TypeId) I64, .row (4 : Go.TypeId) .bool, .row (3 : Go.TypeId) I64, .row (3 : Go.TypeId) I64, .row (97 : Go.TypeId) (.int .u64), .row (3 : Go.TypeId) I64, .row (3 : Go.TypeId) I64, .row (3 : Go.TypeId) I64, .row (4 : Go.TypeId) .bool]⟩
abbrev x21v1 : List Way := [⟨(.ex 0), ⟨[(9, none), (11, none), (12, none), (13, none), (14, none), (15, none)]⟩, ⟨[.un, .un, .un, .un, .un, .un, .un, .un, .un, .box 0 0, .un, .box 1 0, .v I64, .box 2 0, .v I64, .v .bool, .un, .un, .un, .un, .un, .un, .un, .un, .un, .un, .un, .un, .un, .un, .un, .un, .un, .un, .un, .un, .un, .un, .un, .un, .un, .un, .un, .un, .un, .un, .un, .un, .un, .un, .un, .un, .un, .un, .un, .un, .un, .un, .un, .un, .un, .un, .un, .un, .un, .un, .un, .un, .un, .un, .un, .un, .un, .un, .un, .un, .un, .un, .un, .un, .un, .un, .un, .un, .un, .un, .un, .un, .un, .un, .un, .un, .un, .un, .un, .un, .un, .un, .un, .un, .un, .un, .un, .un, .un, .un, .un, .un, .un, .un, .un, .un, .un, .un, .un, .un, .un, .un, .un, .un, .un, .un, .un, .un, .un, .un, .un, .un, .un, .un, .un, .un, .un, .un, .un, .un, .un, .un, .un, .un, .un, .un, .un, .un, .un, .un, .un, .un, .un, .un, .un, .un, .un, .un, .un, .un, .un, .un, .un, .un, .un, .un, .un, .un, .un, .un, .un, .un, .un, .un, .un, .un, .un, .un, .un, .un, .un, .un, .un, .un, .un, .un, .un, .un, .un, .un, .un, .un, .un, .un, .un, .un, .un, .un, .un, .un, .un], [.cells (25 : Go.TypeId) [.v I64, .row 3, .row 4], .cells (93 : Go.TypeId) [.v (.ptr (.one (.list I64))), .row 5, .row 6, .row 7, .v I64, .v .bool, .v I64, .v I64, .row 8], .cells (107 : Go.TypeId) [.v (.list I64), .row 9, .row 10, .row 11, .v I64, .v .bool, .v I64, .v I64], .row (3 : Go.TypeId) I64, .row (4 : Go.TypeId) .bool, .row (3 : Go.TypeId) I64, .row (3 : Go.TypeId) I64, .row (97 : Go.TypeId) (.int .u64), .row (3 : Go.TypeId) I64, .row (3 : Go.TypeId) I64, .row (3 : Go.TypeId) I64, .row (4 : Go.TypeId) .bool]⟩⟩]
abbrev V21v1 : Type := (Int × Int × Bool × Int × Unit) × ((List Int) × (Int × Unit) × ((Option (List Int)) × Int × Bool × Int × Int × Unit) × ((List Int) × Int × Bool × Int × Int × Unit) × (List Int) × (List Bool) × (List Int) × (List Int) × (List Int) × (List Int) × (List Int) × (List Int) × (List Bool) × Unit)
abbrev X21v1 : Type := (Int × Int × Bool × Unit) × ((Int × Unit) × ((Option (List Int)) × Int × Bool × Int × Int × Unit) × ((List Int) × Int × Bool × Int × Int × Unit) × (List Int) × (List Bool) × (List Int) × (List Int) × (List Int) × (List Int) × (List Int) × (List Int) × (List Bool) × Unit)
noncomputable def R21v1 {R : Type} (f12 : Int) (g14 : Int) (same15 : Bool) (i16 : Int) (r0 : List Int) (c1x0 : Int) (c2x0 : (Option (List Int))) (c2x4 : Int) (c2x5 : Bool) (c2x6 : Int) (c2x7 : Int) (c3x0 : (List Int)) (c3x4 : Int) (c3x5 : Bool) (c3x6 : Int) (c3x7 : Int) (r4 : List Int) (r5 : List Bool) (r6 : List Int) (r7 : List Int) (r8 : List Int) (r9 : List Int) (r10 : List Int) (r11 : List Int) (r12 : List Bool) (k : V21v1 → Option R) (kx : X21v1 → Option R) : Option R := (if Decidable.decide (i16 < (↑(List.length r0) : Int)) = Bool.true then (if (0 : Int) ≤ i16 then (if i16 < (↑(List.length r0) : Int) then (if Int.toNat i16 < List.length r0 then k ((f12, g14, same15, IntKind.wrap .i64 (i16 + (1 : Int)), ()), (List.set r0 (Int.toNat i16) (7 : Int), (c1x0, ()), (c2x0, c2x4, c2x5, c2x6, c2x7, ()), (c3x0, c3x4, c3x5, c3x6, c3x7, ()), r4, r5, r6, r7, r8, r9, r10, r11, r12, ()))
 else none)
 else none)
 else none)
 else kx (((f12, g14, same15, ()), ((c1x0, ()), (c2x0, c2x4, c2x5, c2x6, c2x7, ()), (c3x0, c3x4, c3x5, c3x6, c3x7, ()), r4, r5, r6, r7, r8, r9, r10, r11, r12, ()))))
noncomputable def rd21v1 : Rd (VO s21v1) (Xs x21v1) := fun v k kx => match v with
  | ((f12, g14, same15, i16, _), (r0, (c1x0, _), (c2x0, c2x4, c2x5, c2x6, c2x7, _), (c3x0, c3x4, c3x5, c3x6, c3x7, _), r4, r5, r6, r7, r8, r9, r10, r11, r12, _)) => R21v1 f12 g14 same15 i16 r0 c1x0 c2x0 c2x4 c2x5 c2x6 c2x7 c3x0 c3x4 c3x5 c3x6 c3x7 r4 r5 r6 r7 r8 r9 r10 r11 r12 k kx
noncomputable def F21v1 (f12 : Int) (g14 : Int) (same15 : Bool) (i16 : Int) (r0 : List Int) (c1x0 : Int) (c2x0 : (Option (List Int))) (c2x4 : Int) (c2x5 : Bool) (c2x6 : Int) (c2x7 : Int) (c3x0 : (List Int)) (c3x4 : Int) (c3x5 : Bool) (c3x6 : Int) (c3x7 : Int) (r4 : List Int) (r5 : List Bool) (r6 : List Int) (r7 : List Int) (r8 : List Int) (r9 : List Int) (r10 : List Int) (r11 : List Int) (r12 : List Bool) : Option X21v1 := finOf rd21v1 ((f12, g14, same15, i16, ()), (r0, (c1x0, ()), (c2x0, c2x4, c2x5, c2x6, c2x7, ()), (c3x0, c3x4, c3x5, c3x6, c3x7, ()), r4, r5, r6, r7, r8, r9, r10, r11, r12, ()))
theorem F21v1_inv {f12 : Int} {g14 : Int} {same15 : Bool} {c1x0 : Int} {c2x0 : (Option (List Int))} {c2x4 : Int} {c2x5 : Bool} {c2x6 : Int} {c2x7 : Int} {c3x0 : (List Int)} {c3x4 : Int} {c3x5 : Bool} {c3x6 : Int} {c3x7 : Int} {r4 : List Int} {r5 : List Bool} {r6 : List Int} {r7 : List Int} {r8 : List Int} {r9 : List Int} {r10 : List Int} {r11 : List Int} {r12 : List Bool} (I : Int → List Int → Prop) (μ : Int → List Int → Nat) (Q : X21v1 → Prop) (h : ∀ (i16 : Int) (r0 : List Int), I i16 r0 → Led (fun (R : Type) (k : V21v1 → Option R) (kx : X21v1 → Option R) => R21v1 f12 g14 same15 i16 r0 c1x0 c2x0 c2x4 c2x5 c2x6 c2x7 c3x0 c3x4 c3x5 c3x6 c3x7 r4 r5 r6 r7 r8 r9 r10 r11 r12 k kx) (fun v => ∃ (i16' : Int) (r0' : List Int), v = ((f12, g14, same15, i16', ()), (r0', (c1x0, ()), (c2x0, c2x4, c2x5, c2x6, c2x7, ()), (c3x0, c3x4, c3x5, c3x6, c3x7, ()), r4, r5, r6, r7, r8, r9, r10, r11, r12, ())) ∧ I i16' r0' ∧ μ i16' r0' < μ i16 r0) Q) : ∀ (i16 : Int) (r0 : List Int), I i16 r0 → ∃ z, F21v1 f12 g14 same15 i16 r0 c1x0 c2x0 c2x4 c2x5 c2x6 c2x7 c3x0 c3x4 c3x5 c3x6 c3x7 r4 r5 r6 r7 r8 r9 r10 r11 r12 = some z ∧ Q z := fun i16 r0 hi => by
  refine finOf_inv (V := V21v1) (X := X21v1) (rd := rd21v1) (fun v => ∃ (i16' : Int) (r0' : List Int), v = ((f12, g14, same15, i16', ()), (r0', (c1x0, ()), (c2x0, c2x4, c2x5, c2x6, c2x7, ()), (c3x0, c3x4, c3x5, c3x6, c3x7, ()), r4, r5, r6, r7, r8, r9, r10, r11, r12, ())) ∧ I i16' r0') (fun v => match v with
    | ((f12, g14, same15, i16, _), (r0, (c1x0, _), (c2x0, c2x4, c2x5, c2x6, c2x7, _), (c3x0, c3x4, c3x5, c3x6, c3x7, _), r4, r5, r6, r7, r8, r9, r10, r11, r12, _)) => μ i16 r0) Q (fun v hv => ?_) ((f12, g14, same15, i16, ()), (r0, (c1x0, ()), (c2x0, c2x4, c2x5, c2x6, c2x7, ()), (c3x0, c3x4, c3x5, c3x6, c3x7, ()), r4, r5, r6, r7, r8, r9, r10, r11, r12, ())) ⟨i16, r0, rfl, hi⟩
  obtain ⟨i16, r0, rfl, hi⟩ := hv
  refine led_mono (h i16 r0 hi) ?_ (fun _ q => q)
  rintro v ⟨i16', r0', rfl, h1, h2⟩
  exact ⟨⟨i16', r0', rfl, h1⟩, h2⟩
noncomputable def L21v1 : Lp := ⟨21, ⟨[(7, none), (9, none), (11, none), (12, none), (13, none), (14, none), (15, none), (16, none)]⟩, s21v1, x21v1, fun v => match v with
  | ((f12, g14, same15, i16, _), (r0, (c1x0, _), (c2x0, c2x4, c2x5, c2x6, c2x7, _), (c3x0, c3x4, c3x5, c3x6, c3x7, _), r4, r5, r6, r7, r8, r9, r10, r11, r12, _)) => F21v1 f12 g14 same15 i16 r0 c1x0 c2x0 c2x4 c2x5 c2x6 c2x7 c3x0 c3x4 c3x5 c3x6 c3x7 r4 r5 r6 r7 r8 r9 r10 r11 r12⟩
theorem ends21v1 : Ends L21v1 rd21v1 := ends_fin (fun v => by
  obtain ⟨⟨f12, g14, same15, i16, _⟩, ⟨r0, ⟨c1x0, _⟩, ⟨c2x0, c2x4, c2x5, c2x6, c2x7, _⟩, ⟨c3x0, c3x4, c3x5, c3x6, c3x7, _⟩, r4, r5, r6, r7, r8, r9, r10, r11, r12, _⟩⟩ := v
  rfl)
abbrev s25v1 : Shape := ⟨[.un, .un, .un, .un, .un, .un, .un, .un, .un, .box 0 0, .un, .box 1 0, .v I64, .box 2 0, .v I64, .v .bool, .un, .v I64, .un, .un, .un, .un, .un, .un, .un, .un, .un, .un, .un, .un, .un, .un, .un, .un, .un, .un, .un, .un, .un, .un, .un, .un, .un, .un, .un, .un, .un, .un, .un, .un, .un, .un, .un, .un, .un, .un, .un, .un, .un, .un, .un, .un, .un, .un, .un, .un, .un, .un, .un, .un, .un, .un, .un, .un, .un, .un, .un, .un, .un, .un, .un, .un, .un, .un, .un, .un, .un, .un, .un, .un, .un, .un, .un, .un, .un, .un, .un, .un, .un, .un, .un, .un, .un, .un, .un, .un, .un, .un, .un, .un, .un, .un, .un, .un, .un, .un, .un, .un, .un, .un, .un, .un, .un, .un, .un, .un, .un, .un, .un, .un, .un, .un, .un, .un, .un, .un, .un, .un, .un, .un, .un, .un, .un, .un, .un, .un, .un, .un, .un, .un, .un, .un, .un, .un, .un, .un, .un, .un, .un, .un, .un, .un, .un, .un, .un, .un, .un, .un, .un, .un, .un, .un, .un, .un, .un, .un, .un, .un, .un, .un, .un, .un, .un, .un, .un, .un, .un, .un, .un, .un, .un, .un, .un, .un, .un, .un, .un], [.cells (25 : Go.TypeId) [.v I64, .row 3, .row 4], .cells (93 : Go.TypeId) [.v (.ptr (.one (.list I64))), .row 5, .row 6, .row 7, .v I64, .v .bool, .v I64, .v I64, .row 8], .cells (107 : Go.TypeId) [.v (.list I64), .row 9, .row 10, .row 11, .v I64, .v .bool, .v I64, .v I64], .row (3 : Go.TypeId) I64, .row (4 : Go.TypeId) .bool, .row (3 : Go.TypeId) I64, .row (3 : Go.TypeId) I64, .row (97 : Go.TypeId) (.int .u64), .row (3 : Go.TypeId) I64, .row (3 : Go.TypeId) I64, .row (3 : Go.TypeId) I64, .row (4 : Go.TypeId) .bool]⟩
abbrev x25v1 : List Way := [⟨(.ex 2), ⟨[(9, none), (11, none), (12, none), (13, none), (14, none), (15, none)]⟩, ⟨[.un, .un, .un, .un, .un, .un, .un, .un, .un, .box 0 0, .un, .box 1 0, .v I64, .box 2 0, .v I64, .v .bool, .un, .un, .un, .un, .un, .un, .un, .un, .un, .un, .un, .un, .un, .un, .un, .un, .un, .un, .un, .un, .un, .un, .un, .un, .un, .un, .un, .un, .un, .un, .un, .un, .un, .un, .un, .un, .un, .un, .un, .un, .un, .un, .un, .un, .un, .un, .un, .un, .un, .un, .un, .un, .un, .un, .un, .un, .un, .un, .un, .un, .un, .un, .un, .un, .un, .un, .un, .un, .un, .un, .un, .un, .un, .un, .un, .un, .un, .un, .un, .un, .un, .un, .un, .un, .un, .un, .un, .un, .un, .un, .un, .un, .un, .un, .un, .un, .un, .un, .un, .un, .un, .un, .un, .un, .un, .un, .un, .un, .un, .un, .un, .un, .un, .un, .un, .un, .un, .un, .un, .un, .un, .un, .un, .un, .un, .un, .un, .un, .un, .un, .un, .un, .un, .un, .un, .un, .un, .un, .un, .un, .un, .un, .un, .un, .un, .un, .un, .un, .un, .un, .un, .un, .un, .un, .un, .un, .un, .un, .un, .un, .un, .un, .un, .un, .un, .un, .un, .un, .un, .un, .un, .un, .un, .un, .un, .un, .un, .un, .un, .un, .un], [.cells (25 : Go.TypeId) [.v I64, .row 3, .row 4], .cells (93 : Go.TypeId) [.v (.ptr (.one (.list I64))), .row 5, .row 6, .row 7, .v I64, .v .bool, .v I64, .v I64, .row 8], .cells (107 : Go.TypeId) [.v (.list I64), .row 9, .row 10, .row 11, .v I64, .v .bool, .v I64, .v I64], .row (3 : Go.TypeId) I64, .row (4 : Go.TypeId) .bool, .row (3 : Go.TypeId) I64, .row (3 : Go.TypeId) I64, .row (97 : Go.TypeId) (.int .u64), .row (3 : Go.TypeId) I64, .row (3 : Go.TypeId) I64, .row (3 : Go.TypeId) I64, .row (4 : Go.TypeId) .bool]⟩⟩]
abbrev V25v1 : Type := (Int × Int × Bool × Int × Unit) × ((Int × Unit) × ((Option (List Int)) × Int × Bool × Int × Int × Unit) × ((List Int) × Int × Bool × Int × Int × Unit) × (List Int) × (List Bool) × (List Int) × (List Int) × (List Int) × (List Int) × (List Int) × (List Int) × (List Bool) × Unit)
abbrev X25v1 : Type := (Int × Int × Bool × Unit) × ((Int × Unit) × ((Option (List Int)) × Int × Bool × Int × Int × Unit) × ((List Int) × Int × Bool × Int × Int × Unit) × (List Int) × (List Bool) × (List Int) × (List Int) × (List Int) × (List Int) × (List Int) × (List Int) × (List Bool) × Unit)
noncomputable def R25v1 {R : Type} (f12 : Int) (g14 : Int) (same15 : Bool) (i17 : Int) (c0x0 : Int) (c1x0 : (Option (List Int))) (c1x4 : Int) (c1x5 : Bool) (c1x6 : Int) (c1x7 : Int) (c2x0 : (List Int)) (c2x4 : Int) (c2x5 : Bool) (c2x6 : Int) (c2x7 : Int) (r3 : List Int) (r4 : List Bool) (r5 : List Int) (r6 : List Int) (r7 : List Int) (r8 : List Int) (r9 : List Int) (r10 : List Int) (r11 : List Bool) (k : V25v1 → Option R) (kx : X25v1 → Option R) : Option R := (if Decidable.decide (i17 < (↑(List.length r3) : Int)) = Bool.true then (if (0 : Int) ≤ i17 then (if i17 < (↑(List.length r3) : Int) then (if Int.toNat i17 < List.length r3 then k ((f12, g14, same15, IntKind.wrap .i64 (i17 + (1 : Int)), ()), ((c0x0, ()), (c1x0, c1x4, c1x5, c1x6, c1x7, ()), (c2x0, c2x4, c2x5, c2x6, c2x7, ()), List.set r3 (Int.toNat i17) (0 : Int), r4, r5, r6, r7, r8, r9, r10, r11, ()))
 else none)
 else none)
 else none)
 else kx (((f12, g14, same15, ()), ((c0x0, ()), (c1x0, c1x4, c1x5, c1x6, c1x7, ()), (c2x0, c2x4, c2x5, c2x6, c2x7, ()), r3, r4, r5, r6, r7, r8, r9, r10, r11, ()))))
noncomputable def rd25v1 : Rd (VO s25v1) (Xs x25v1) := fun v k kx => match v with
  | ((f12, g14, same15, i17, _), ((c0x0, _), (c1x0, c1x4, c1x5, c1x6, c1x7, _), (c2x0, c2x4, c2x5, c2x6, c2x7, _), r3, r4, r5, r6, r7, r8, r9, r10, r11, _)) => R25v1 f12 g14 same15 i17 c0x0 c1x0 c1x4 c1x5 c1x6 c1x7 c2x0 c2x4 c2x5 c2x6 c2x7 r3 r4 r5 r6 r7 r8 r9 r10 r11 k kx
noncomputable def F25v1 (f12 : Int) (g14 : Int) (same15 : Bool) (i17 : Int) (c0x0 : Int) (c1x0 : (Option (List Int))) (c1x4 : Int) (c1x5 : Bool) (c1x6 : Int) (c1x7 : Int) (c2x0 : (List Int)) (c2x4 : Int) (c2x5 : Bool) (c2x6 : Int) (c2x7 : Int) (r3 : List Int) (r4 : List Bool) (r5 : List Int) (r6 : List Int) (r7 : List Int) (r8 : List Int) (r9 : List Int) (r10 : List Int) (r11 : List Bool) : Option X25v1 := finOf rd25v1 ((f12, g14, same15, i17, ()), ((c0x0, ()), (c1x0, c1x4, c1x5, c1x6, c1x7, ()), (c2x0, c2x4, c2x5, c2x6, c2x7, ()), r3, r4, r5, r6, r7, r8, r9, r10, r11, ()))
theorem F25v1_inv {f12 : Int} {g14 : Int} {same15 : Bool} {c0x0 : Int} {c1x0 : (Option (List Int))} {c1x4 : Int} {c1x5 : Bool} {c1x6 : Int} {c1x7 : Int} {c2x0 : (List Int)} {c2x4 : Int} {c2x5 : Bool} {c2x6 : Int} {c2x7 : Int} {r4 : List Bool} {r5 : List Int} {r6 : List Int} {r7 : List Int} {r8 : List Int} {r9 : List Int} {r10 : List Int} {r11 : List Bool} (I : Int → List Int → Prop) (μ : Int → List Int → Nat) (Q : X25v1 → Prop) (h : ∀ (i17 : Int) (r3 : List Int), I i17 r3 → Led (fun (R : Type) (k : V25v1 → Option R) (kx : X25v1 → Option R) => R25v1 f12 g14 same15 i17 c0x0 c1x0 c1x4 c1x5 c1x6 c1x7 c2x0 c2x4 c2x5 c2x6 c2x7 r3 r4 r5 r6 r7 r8 r9 r10 r11 k kx) (fun v => ∃ (i17' : Int) (r3' : List Int), v = ((f12, g14, same15, i17', ()), ((c0x0, ()), (c1x0, c1x4, c1x5, c1x6, c1x7, ()), (c2x0, c2x4, c2x5, c2x6, c2x7, ()), r3', r4, r5, r6, r7, r8, r9, r10, r11, ())) ∧ I i17' r3' ∧ μ i17' r3' < μ i17 r3) Q) : ∀ (i17 : Int) (r3 : List Int), I i17 r3 → ∃ z, F25v1 f12 g14 same15 i17 c0x0 c1x0 c1x4 c1x5 c1x6 c1x7 c2x0 c2x4 c2x5 c2x6 c2x7 r3 r4 r5 r6 r7 r8 r9 r10 r11 = some z ∧ Q z := fun i17 r3 hi => by
  refine finOf_inv (V := V25v1) (X := X25v1) (rd := rd25v1) (fun v => ∃ (i17' : Int) (r3' : List Int), v = ((f12, g14, same15, i17', ()), ((c0x0, ()), (c1x0, c1x4, c1x5, c1x6, c1x7, ()), (c2x0, c2x4, c2x5, c2x6, c2x7, ()), r3', r4, r5, r6, r7, r8, r9, r10, r11, ())) ∧ I i17' r3') (fun v => match v with
    | ((f12, g14, same15, i17, _), ((c0x0, _), (c1x0, c1x4, c1x5, c1x6, c1x7, _), (c2x0, c2x4, c2x5, c2x6, c2x7, _), r3, r4, r5, r6, r7, r8, r9, r10, r11, _)) => μ i17 r3) Q (fun v hv => ?_) ((f12, g14, same15, i17, ()), ((c0x0, ()), (c1x0, c1x4, c1x5, c1x6, c1x7, ()), (c2x0, c2x4, c2x5, c2x6, c2x7, ()), r3, r4, r5, r6, r7, r8, r9, r10, r11, ())) ⟨i17, r3, rfl, hi⟩
  obtain ⟨i17, r3, rfl, hi⟩ := hv
  refine led_mono (h i17 r3 hi) ?_ (fun _ q => q)
  rintro v ⟨i17', r3', rfl, h1, h2⟩
  exact ⟨⟨i17', r3', rfl, h1⟩, h2⟩
noncomputable def L25v1 : Lp := ⟨25, ⟨[(9, none), (11, none), (12, none), (13, none), (14, none), (15, none), (17, none)]⟩, s25v1, x25v1, fun v => match v with
  | ((f12, g14, same15, i17, _), ((c0x0, _), (c1x0, c1x4, c1x5, c1x6, c1x7, _), (c2x0, c2x4, c2x5, c2x6, c2x7, _), r3, r4, r5, r6, r7, r8, r9, r10, r11, _)) => F25v1 f12 g14 same15 i17 c0x0 c1x0 c1x4 c1x5 c1x6 c1x7 c2x0 c2x4 c2x5 c2x6 c2x7 r3 r4 r5 r6 r7 r8 r9 r10 r11⟩
theorem ends25v1 : Ends L25v1 rd25v1 := ends_fin (fun v => by
  obtain ⟨⟨f12, g14, same15, i17, _⟩, ⟨⟨c0x0, _⟩, ⟨c1x0, c1x4, c1x5, c1x6, c1x7, _⟩, ⟨c2x0, c2x4, c2x5, c2x6, c2x7, _⟩, r3, r4, r5, r6, r7, r8, r9, r10, r11, _⟩⟩ := v
  rfl)
abbrev s29v1 : Shape := ⟨[.un, .un, .un, .un, .un, .un, .un, .un, .un, .box 0 0, .un, .box 1 0, .v I64, .box 2 0, .v I64, .v .bool, .un, .un, .v I64, .un, .un, .un, .un, .un, .un, .un, .un, .un, .un, .un, .un, .un, .un, .un, .un, .un, .un, .un, .un, .un, .un, .un, .un, .un, .un, .un, .un, .un, .un, .un, .un, .un, .un, .un, .un, .un, .un, .un, .un, .un, .un, .un, .un, .un, .un, .un, .un, .un, .un, .un, .un, .un, .un, .un, .un, .un, .un, .un, .un, .un, .un, .un, .un, .un, .un, .un, .un, .un, .un, .un, .un, .un, .un, .un, .un, .un, .un, .un, .un, .un, .un, .un, .un, .un, .un, .un, .un, .un, .un, .un, .un, .un, .un, .un, .un, .un, .un, .un, .un, .un, .un, .un, .un, .un, .un, .un, .un, .un, .un, .un, .un, .un, .un, .un, .un, .un, .un, .un, .un, .un, .un, .un, .un, .un, .un, .un, .un, .un, .un, .un, .un, .un, .un, .un, .un, .un, .un, .un, .un, .un, .un, .un, .un, .un, .un, .un, .un, .un, .un, .un, .un, .un, .un, .un, .un, .un, .un, .un, .un, .un, .un, .un, .un, .un, .un, .un, .un, .un, .un, .un, .un, .un, .un, .un, .un, .un, .un], [.cells (25 : Go.TypeId) [.v I64, .row 3, .row 4], .cells (93 : Go.TypeId) [.v (.ptr (.one (.list I64))), .row 5, .row 6, .row 7, .v I64, .v .bool, .v I64, .v I64, .row 8], .cells (107 : Go.TypeId) [.v (.list I64), .row 9, .row 10, .row 11, .v I64, .v .bool, .v I64, .v I64], .row (3 : Go.TypeId) I64, .row (4 : Go.TypeId) .bool, .row (3 : Go.TypeId) I64, .row (3 : Go.TypeId) I64, .row (97 : Go.TypeId) (.int .u64), .row (3 : Go.TypeId) I64, .row (3 : Go.TypeId) I64, .row (3 : Go.TypeId) I64, .row (4 : Go.TypeId) .bool]⟩
abbrev x29v1 : List Way := [⟨(.ex 4), ⟨[(11, none), (12, none), (13, none), (14, none), (15, none)]⟩, ⟨[.un, .un, .un, .un, .un, .un, .un, .un, .un, .un, .un, .box 0 0, .v I64, .box 1 0, .v I64, .v .bool, .un, .un, .un, .un, .un, .un, .un, .un, .un, .un, .un, .un, .un, .un, .un, .un, .un, .un, .un, .un, .un, .un, .un, .un, .un, .un, .un, .un, .un, .un, .un, .un, .un, .un, .un, .un, .un, .un, .un, .un, .un, .un, .un, .un, .un, .un, .un, .un, .un, .un, .un, .un, .un, .un, .un, .un, .un, .un, .un, .un, .un, .un, .un, .un, .un, .un, .un, .un, .un, .un, .un, .un, .un, .un, .un, .un, .un, .un, .un, .un, .un, .un, .un, .un, .un, .un, .un, .un, .un, .un, .un, .un, .un, .un, .un, .un, .un, .un, .un, .un, .un, .un, .un, .un, .un, .un, .un, .un, .un, .un, .un, .un, .un, .un, .un, .un, .un, .un, .un, .un, .un, .un, .un, .un, .un, .un, .un, .un, .un, .un, .un, .un, .un, .un, .un, .un, .un, .un, .un, .un, .un, .un, .un, .un, .un, .un, .un, .un, .un, .un, .un, .un, .un, .un, .un, .un, .un, .un, .un, .un, .un, .un, .un, .un, .un, .un, .un, .un, .un, .un, .un, .un, .un, .un, .un, .un, .un, .un, .un, .un, .un], [.cells (93 : Go.TypeId) [.v (.ptr (.one (.list I64))), .row 2, .row 3, .row 4, .v I64, .v .bool, .v I64, .v I64, .row 5], .cells (107 : Go.TypeId) [.v (.list I64), .row 6, .row 7, .row 8, .v I64, .v .bool, .v I64, .v I64], .row (3 : Go.TypeId) I64, .row (3 : Go.TypeId) I64, .row (97 : Go.TypeId) (.int .u64), .row (3 : Go.TypeId) I64, .row (3 : Go.TypeId) I64, .row (3 : Go.TypeId) I64, .row (4 : Go.TypeId) .bool]⟩⟩]
abbrev V29v1 : Type := (Int × Int × Bool × Int × Unit) × ((Int × Unit) × ((Option (List Int)) × Int × Bool × Int × Int × Unit) × ((List Int) × Int × Bool × Int × Int × Unit) × (List Int) × (List Bool) × (List Int) × (List Int) × (List Int) × (List Int) × (List Int) × (List Int) × (List Bool) × Unit)
abbrev X29v1 : Type := (Int × Int × Bool × Unit) × (((Option (List Int)) × Int × Bool × Int × Int × Unit) × ((List Int) × Int × Bool × Int × Int × Unit) × (List Int) × (List Int) × (List Int) × (List Int) × (List Int) × (List Int) × (List Bool) × Unit)
noncomputable def R29v1 {R : Type} (f12 : Int) (g14 : Int) (same15 : Bool) (i18 : Int) (c0x0 : Int) (c1x0 : (Option (List Int))) (c1x4 : Int) (c1x5 : Bool) (c1x6 : Int) (c1x7 : Int) (c2x0 : (List Int)) (c2x4 : Int) (c2x5 : Bool) (c2x6 : Int) (c2x7 : Int) (r3 : List Int) (r4 : List Bool) (r5 : List Int) (r6 : List Int) (r7 : List Int) (r8 : List Int) (r9 : List Int) (r10 : List Int) (r11 : List Bool) (k : V29v1 → Option R) (kx : X29v1 → Option R) : Option R := (if Decidable.decide (i18 < (↑(List.length r4) : Int)) = Bool.true then (if (0 : Int) ≤ i18 then (if i18 < (↑(List.length r4) : Int) then (if (0 : Int) ≤ i18 then (if i18 < (↑(List.length r4) : Int) then (if Int.toNat i18 < List.length r4 then k ((f12, g14, same15, IntKind.wrap .i64 (i18 + (1 : Int)), ()), ((c0x0, ()), (c1x0, c1x4, c1x5, c1x6, c1x7, ()), (c2x0, c2x4, c2x5, c2x6, c2x7, ()), r3, List.set r4 (Int.toNat i18) !List.getD r4 (Int.toNat i18) Bool.false, r5, r6, r7, r8, r9, r10, r11, ()))
 else none)
 else none)
 else none)
 else none)
 else none)
 else kx (((f12, g14, same15, ()), ((c1x0, c1x4, c1x5, c1x6, c1x7, ()), (c2x0, c2x4, c2x5, c2x6, c2x7, ()), r5, r6, r7, r8, r9, r10, r11, ()))))
noncomputable def rd29v1 : Rd (VO s29v1) (Xs x29v1) := fun v k kx => match v with
  | ((f12, g14, same15, i18, _), ((c0x0, _), (c1x0, c1x4, c1x5, c1x6, c1x7, _), (c2x0, c2x4, c2x5, c2x6, c2x7, _), r3, r4, r5, r6, r7, r8, r9, r10, r11, _)) => R29v1 f12 g14 same15 i18 c0x0 c1x0 c1x4 c1x5 c1x6 c1x7 c2x0 c2x4 c2x5 c2x6 c2x7 r3 r4 r5 r6 r7 r8 r9 r10 r11 k kx
noncomputable def F29v1 (f12 : Int) (g14 : Int) (same15 : Bool) (i18 : Int) (c0x0 : Int) (c1x0 : (Option (List Int))) (c1x4 : Int) (c1x5 : Bool) (c1x6 : Int) (c1x7 : Int) (c2x0 : (List Int)) (c2x4 : Int) (c2x5 : Bool) (c2x6 : Int) (c2x7 : Int) (r3 : List Int) (r4 : List Bool) (r5 : List Int) (r6 : List Int) (r7 : List Int) (r8 : List Int) (r9 : List Int) (r10 : List Int) (r11 : List Bool) : Option X29v1 := finOf rd29v1 ((f12, g14, same15, i18, ()), ((c0x0, ()), (c1x0, c1x4, c1x5, c1x6, c1x7, ()), (c2x0, c2x4, c2x5, c2x6, c2x7, ()), r3, r4, r5, r6, r7, r8, r9, r10, r11, ()))
theorem F29v1_inv {f12 : Int} {g14 : Int} {same15 : Bool} {c0x0 : Int} {c1x0 : (Option (List Int))} {c1x4 : Int} {c1x5 : Bool} {c1x6 : Int} {c1x7 : Int} {c2x0 : (List Int)} {c2x4 : Int} {c2x5 : Bool} {c2x6 : Int} {c2x7 : Int} {r3 : List Int} {r5 : List Int} {r6 : List Int} {r7 : List Int} {r8 : List Int} {r9 : List Int} {r10 : List Int} {r11 : List Bool} (I : Int → List Bool → Prop) (μ : Int → List Bool → Nat) (Q : X29v1 → Prop) (h : ∀ (i18 : Int) (r4 : List Bool), I i18 r4 → Led (fun (R : Type) (k : V29v1 → Option R) (kx : X29v1 → Option R) => R29v1 f12 g14 same15 i18 c0x0 c1x0 c1x4 c1x5 c1x6 c1x7 c2x0 c2x4 c2x5 c2x6 c2x7 r3 r4 r5 r6 r7 r8 r9 r10 r11 k kx) (fun v => ∃ (i18' : Int) (r4' : List Bool), v = ((f12, g14, same15, i18', ()), ((c0x0, ()), (c1x0, c1x4, c1x5, c1x6, c1x7, ()), (c2x0, c2x4, c2x5, c2x6, c2x7, ()), r3, r4', r5, r6, r7, r8, r9, r10, r11, ())) ∧ I i18' r4' ∧ μ i18' r4' < μ i18 r4) Q) : ∀ (i18 : Int) (r4 : List Bool), I i18 r4 → ∃ z, F29v1 f12 g14 same15 i18 c0x0 c1x0 c1x4 c1x5 c1x6 c1x7 c2x0 c2x4 c2x5 c2x6 c2x7 r3 r4 r5 r6 r7 r8 r9 r10 r11 = some z ∧ Q z := fun i18 r4 hi => by
  refine finOf_inv (V := V29v1) (X := X29v1) (rd := rd29v1) (fun v => ∃ (i18' : Int) (r4' : List Bool), v = ((f12, g14, same15, i18', ()), ((c0x0, ()), (c1x0, c1x4, c1x5, c1x6, c1x7, ()), (c2x0, c2x4, c2x5, c2x6, c2x7, ()), r3, r4', r5, r6, r7, r8, r9, r10, r11, ())) ∧ I i18' r4') (fun v => match v with
    | ((f12, g14, same15, i18, _), ((c0x0, _), (c1x0, c1x4, c1x5, c1x6, c1x7, _), (c2x0, c2x4, c2x5, c2x6, c2x7, _), r3, r4, r5, r6, r7, r8, r9, r10, r11, _)) => μ i18 r4) Q (fun v hv => ?_) ((f12, g14, same15, i18, ()), ((c0x0, ()), (c1x0, c1x4, c1x5, c1x6, c1x7, ()), (c2x0, c2x4, c2x5, c2x6, c2x7, ()), r3, r4, r5, r6, r7, r8, r9, r10, r11, ())) ⟨i18, r4, rfl, hi⟩
  obtain ⟨i18, r4, rfl, hi⟩ := hv
  refine led_mono (h i18 r4 hi) ?_ (fun _ q => q)
  rintro v ⟨i18', r4', rfl, h1, h2⟩
  exact ⟨⟨i18', r4', rfl, h1⟩, h2⟩
noncomputable def L29v1 : Lp := ⟨29, ⟨[(9, none), (11, none), (12, none), (13, none), (14, none), (15, none), (18, none)]⟩, s29v1, x29v1, fun v => match v with
  | ((f12, g14, same15, i18, _), ((c0x0, _), (c1x0, c1x4, c1x5, c1x6, c1x7, _), (c2x0, c2x4, c2x5, c2x6, c2x7, _), r3, r4, r5, r6, r7, r8, r9, r10, r11, _)) => F29v1 f12 g14 same15 i18 c0x0 c1x0 c1x4 c1x5 c1x6 c1x7 c2x0 c2x4 c2x5 c2x6 c2x7 r3 r4 r5 r6 r7 r8 r9 r10 r11⟩
theorem ends29v1 : Ends L29v1 rd29v1 := ends_fin (fun v => by
  obtain ⟨⟨f12, g14, same15, i18, _⟩, ⟨⟨c0x0, _⟩, ⟨c1x0, c1x4, c1x5, c1x6, c1x7, _⟩, ⟨c2x0, c2x4, c2x5, c2x6, c2x7, _⟩, r3, r4, r5, r6, r7, r8, r9, r10, r11, _⟩⟩ := v
  rfl)
noncomputable def env : Env := mkEnvV tabD [(41, end17.sig), (24, IntsO.sig), (42, BoolsO.sig), (39, layNew.sig), (16, num17.sig), (14, NewE.sig), (34, FromE.sig), (44, NewR.sig), (43, FromR.sig), (21, SameIntsH.sig), (45, SameCheck.sig)] 0 (fixL ps) [(999999, [0]), (999998, [0]), (1, [0, 1, 3, 4, 2, 5, 6, 7, 8, 9, 10, 11]), (15, [0, 1, 2, 3, 4, 5, 6, 7, 8, 9, 10]), (19, [0, 1, 2, 3, 4, 5, 6, 7, 8, 9, 10, 11, 12, 13, 14, 15, 16, 17, 18, 19, 20, 21, 22, 23, 24, 25, 26, 27, 28, 29, 30]), (31, [0, 1, 2, 3, 4, 5, 6, 7, 8, 9, 10])] [] [Lr6, L21, L25, L29, L21v1, L25v1, L29v1] [6]
noncomputable def hhr6 : Head := ⟨[(1, none), (5, none), (7, none), (8, none), (9, none), (44, none), (45, none), (46, none), (47, none), (48, none), (49, none), (50, none), (51, none), (52, none), (53, none), (54, none), (55, none), (56, none), (57, none), (58, none), (59, none)]⟩
noncomputable def hhr6e : Head := ⟨[(1, none), (5, none), (7, none), (8, none), (9, none)]⟩
noncomputable abbrev opsr6 : Array Oper := regOps (sub [true, true, true, true, true, false] code)
noncomputable def mk (k : Nat) : Array Bool := ((List.range 18).map (fun i => Nat.testBit k i)).toArray
noncomputable def o_0 (v : VO sr6) : Ob := match v with
  | ((l5, n8, _), ((c0x0, c0x1, c0x2, c0x3, c0x4, c0x5, _), r1, _)) => Ob.cells (27 : Nat) [A.v (T.list (T.int Go.IntKind.i64)) c0x0, A.v (T.list (T.int Go.IntKind.i64)) c0x1, A.v T.bool c0x2, A.v (T.int Go.IntKind.i64) c0x3, A.v (T.list (T.int Go.IntKind.i64)) c0x4, A.v (T.list T.bool) c0x5]
noncomputable def o_1 (v : VO sr6) : Ob := match v with
  | ((l5, n8, _), ((c0x0, c0x1, c0x2, c0x3, c0x4, c0x5, _), r1, _)) => Ob.row (3 : Go.TypeId) (T.int Go.IntKind.i64) r1
noncomputable def o_2 (v : VO sr6) : Ob := match v with
  | ((l5, n8, _), ((c0x0, c0x1, c0x2, c0x3, c0x4, c0x5, _), r1, _)) => Ob.row (3 : Go.TypeId) (T.int Go.IntKind.i64) [(202 : Int)]
noncomputable def o_3 (v : VO sr6) : Ob := match v with
  | ((l5, n8, _), ((c0x0, c0x1, c0x2, c0x3, c0x4, c0x5, _), r1, _)) => Ob.row (4 : Go.TypeId) T.bool [Bool.true]
noncomputable def o_4 (v : VO sr6) : Ob := match v with
  | ((l5, n8, _), ((c0x0, c0x1, c0x2, c0x3, c0x4, c0x5, _), r1, _)) => Ob.cells (25 : Nat) [A.v (T.int Go.IntKind.i64) (0 : Int), A.nls, A.nls]
noncomputable def o_5 (v : VO sr6) : Ob := match v with
  | ((l5, n8, _), ((c0x0, c0x1, c0x2, c0x3, c0x4, c0x5, _), r1, _)) => Ob.row (3 : Go.TypeId) (T.int Go.IntKind.i64) (IntsO.fn c0x4).1
noncomputable def o_6 (v : VO sr6) : Ob := match v with
  | ((l5, n8, _), ((c0x0, c0x1, c0x2, c0x3, c0x4, c0x5, _), r1, _)) => Ob.row (3 : Go.TypeId) (T.int Go.IntKind.i64) ((IntsO.fn c0x4).1 ++ [(202 : Int)])
noncomputable def o_7 (v : VO sr6) : Ob := match v with
  | ((l5, n8, _), ((c0x0, c0x1, c0x2, c0x3, c0x4, c0x5, _), r1, _)) => Ob.row (4 : Go.TypeId) T.bool (BoolsO.fn c0x5).1
noncomputable def o_8 (v : VO sr6) : Ob := match v with
  | ((l5, n8, _), ((c0x0, c0x1, c0x2, c0x3, c0x4, c0x5, _), r1, _)) => Ob.row (4 : Go.TypeId) T.bool ((BoolsO.fn c0x5).1 ++ [Bool.true])
noncomputable def o_9 (v : VO sr6) : Ob := match v with
  | ((l5, n8, _), ((c0x0, c0x1, c0x2, c0x3, c0x4, c0x5, _), r1, _)) => Ob.cells (25 : Nat) [A.v (T.int Go.IntKind.i64) c0x3, A.row (nat_lit 3), A.row (nat_lit 4)]
noncomputable def a_0 (v : VO sr6) : A := match v with
  | ((l5, n8, _), ((c0x0, c0x1, c0x2, c0x3, c0x4, c0x5, _), r1, _)) => A.box (nat_lit 0) (nat_lit 3)
noncomputable def a_1 (v : VO sr6) : A := match v with
  | ((l5, n8, _), ((c0x0, c0x1, c0x2, c0x3, c0x4, c0x5, _), r1, _)) => A.box (nat_lit 0) (nat_lit 4)
noncomputable def a_2 (v : VO sr6) : A := match v with
  | ((l5, n8, _), ((c0x0, c0x1, c0x2, c0x3, c0x4, c0x5, _), r1, _)) => A.box (nat_lit 0) (nat_lit 5)
noncomputable def a_3 (v : VO sr6) : A := match v with
  | ((l5, n8, _), ((c0x0, c0x1, c0x2, c0x3, c0x4, c0x5, _), r1, _)) => A.v (T.int Go.IntKind.i64) c0x3
noncomputable def a_4 (v : VO sr6) : A := match v with
  | ((l5, n8, _), ((c0x0, c0x1, c0x2, c0x3, c0x4, c0x5, _), r1, _)) => A.v (T.list (T.int Go.IntKind.i64)) c0x4
noncomputable def a_5 (v : VO sr6) : A := match v with
  | ((l5, n8, _), ((c0x0, c0x1, c0x2, c0x3, c0x4, c0x5, _), r1, _)) => A.row (nat_lit 2)
noncomputable def a_6 (v : VO sr6) : A := match v with
  | ((l5, n8, _), ((c0x0, c0x1, c0x2, c0x3, c0x4, c0x5, _), r1, _)) => A.v (T.list T.bool) c0x5
noncomputable def a_7 (v : VO sr6) : A := match v with
  | ((l5, n8, _), ((c0x0, c0x1, c0x2, c0x3, c0x4, c0x5, _), r1, _)) => A.box (nat_lit 2) (nat_lit 0)
noncomputable def a_8 (v : VO sr6) : A := match v with
  | ((l5, n8, _), ((c0x0, c0x1, c0x2, c0x3, c0x4, c0x5, _), r1, _)) => A.row (nat_lit 3)
noncomputable def a_9 (v : VO sr6) : A := match v with
  | ((l5, n8, _), ((c0x0, c0x1, c0x2, c0x3, c0x4, c0x5, _), r1, _)) => A.row (nat_lit 4)
noncomputable def a_10 (v : VO sr6) : A := match v with
  | ((l5, n8, _), ((c0x0, c0x1, c0x2, c0x3, c0x4, c0x5, _), r1, _)) => A.row (nat_lit 5)
noncomputable def a_11 (v : VO sr6) : A := match v with
  | ((l5, n8, _), ((c0x0, c0x1, c0x2, c0x3, c0x4, c0x5, _), r1, _)) => A.row (nat_lit 6)
noncomputable def a_12 (v : VO sr6) : A := match v with
  | ((l5, n8, _), ((c0x0, c0x1, c0x2, c0x3, c0x4, c0x5, _), r1, _)) => A.str (A.tcons (A.v (T.int Go.IntKind.i64) c0x3) (A.tcons (A.row (nat_lit 3)) (A.tcons (A.row (nat_lit 5)) A.tnil)))
noncomputable def a_13 (v : VO sr6) : A := match v with
  | ((l5, n8, _), ((c0x0, c0x1, c0x2, c0x3, c0x4, c0x5, _), r1, _)) => A.str (A.tcons (A.v (T.int Go.IntKind.i64) c0x3) (A.tcons (A.row (nat_lit 4)) (A.tcons (A.row (nat_lit 6)) A.tnil)))
noncomputable def S0 (v : VO sr6) : St := nd [] (bS sr6 v).tm [o_0 v, o_1 v]
noncomputable def S1 (v : VO sr6) : St := nd [(44, a_0 v)] (bS sr6 v).tm [o_0 v, o_1 v]
noncomputable def S2 (v : VO sr6) : St := nd [(44, a_0 v), (45, a_0 v)] (bS sr6 v).tm [o_0 v, o_1 v]
noncomputable def S3 (v : VO sr6) : St := nd [(44, a_0 v), (45, a_0 v), (47, a_0 v)] (bS sr6 v).tm [o_0 v, o_1 v]
noncomputable def S4 (v : VO sr6) : St := nd [(44, a_0 v), (45, a_0 v), (47, a_0 v), (48, a_1 v)] (bS sr6 v).tm [o_0 v, o_1 v]
noncomputable def S5 (v : VO sr6) : St := nd [(44, a_0 v), (45, a_0 v), (47, a_0 v), (48, a_1 v), (53, a_0 v)] (bS sr6 v).tm [o_0 v, o_1 v]
noncomputable def S6 (v : VO sr6) : St := nd [(44, a_0 v), (45, a_0 v), (47, a_0 v), (48, a_1 v), (53, a_0 v), (54, a_2 v)] (bS sr6 v).tm [o_0 v, o_1 v]
noncomputable def S7 (v : VO sr6) : St := nd [(44, a_0 v), (45, a_0 v), (46, a_3 v), (47, a_0 v), (48, a_1 v), (53, a_0 v), (54, a_2 v)] (bS sr6 v).tm [o_0 v, o_1 v]
noncomputable def S8 (v : VO sr6) : St := nd [(44, a_0 v), (45, a_0 v), (47, a_0 v), (48, a_1 v), (49, a_4 v), (53, a_0 v), (54, a_2 v)] (bS sr6 v).tm [o_0 v, o_1 v]
noncomputable def S9 (v : VO sr6) : St := nd [(44, a_0 v), (45, a_0 v), (47, a_0 v), (48, a_1 v), (51, a_5 v), (53, a_0 v), (54, a_2 v)] (bS sr6 v).tm [o_0 v, o_1 v, o_2 v]
noncomputable def S10 (v : VO sr6) : St := nd [(44, a_0 v), (45, a_0 v), (47, a_0 v), (48, a_1 v), (53, a_0 v), (54, a_2 v), (55, a_6 v)] (bS sr6 v).tm [o_0 v, o_1 v]
noncomputable def S11 (v : VO sr6) : St := nd [(44, a_0 v), (45, a_0 v), (47, a_0 v), (48, a_1 v), (53, a_0 v), (54, a_2 v), (57, a_5 v)] (bS sr6 v).tm [o_0 v, o_1 v, o_3 v]
noncomputable def S12 (v : VO sr6) : St := nd [(9, a_7 v), (44, a_0 v), (45, a_0 v), (47, a_0 v), (48, a_1 v), (53, a_0 v), (54, a_2 v)] (bS sr6 v).tm [o_0 v, o_1 v, o_4 v]
noncomputable def S13 (v : VO sr6) : St := nd [(44, a_0 v), (45, a_0 v), (46, a_3 v), (47, a_0 v), (48, a_1 v), (49, a_4 v), (53, a_0 v), (54, a_2 v)] (bS sr6 v).tm [o_0 v, o_1 v]
noncomputable def S14 (v : VO sr6) : St := nd [(44, a_0 v), (45, a_0 v), (46, a_3 v), (47, a_0 v), (48, a_1 v), (51, a_5 v), (53, a_0 v), (54, a_2 v)] (bS sr6 v).tm [o_0 v, o_1 v, o_2 v]
noncomputable def S15 (v : VO sr6) : St := nd [(44, a_0 v), (45, a_0 v), (46, a_3 v), (47, a_0 v), (48, a_1 v), (53, a_0 v), (54, a_2 v), (55, a_6 v)] (bS sr6 v).tm [o_0 v, o_1 v]
noncomputable def S16 (v : VO sr6) : St := nd [(44, a_0 v), (45, a_0 v), (46, a_3 v), (47, a_0 v), (48, a_1 v), (53, a_0 v), (54, a_2 v), (57, a_5 v)] (bS sr6 v).tm [o_0 v, o_1 v, o_3 v]
noncomputable def S17 (v : VO sr6) : St := nd [(9, a_7 v), (44, a_0 v), (45, a_0 v), (46, a_3 v), (47, a_0 v), (48, a_1 v), (53, a_0 v), (54, a_2 v)] (bS sr6 v).tm [o_0 v, o_1 v, o_4 v]
noncomputable def S18 (v : VO sr6) : St := nd [(44, a_0 v), (45, a_0 v), (47, a_0 v), (48, a_1 v), (49, a_4 v), (50, a_5 v), (53, a_0 v), (54, a_2 v)] (bS sr6 v).tm [o_0 v, o_1 v, o_5 v]
noncomputable def S19 (v : VO sr6) : St := nd [(44, a_0 v), (45, a_0 v), (47, a_0 v), (48, a_1 v), (49, a_4 v), (51, a_5 v), (53, a_0 v), (54, a_2 v)] (bS sr6 v).tm [o_0 v, o_1 v, o_2 v]
noncomputable def S20 (v : VO sr6) : St := nd [(44, a_0 v), (45, a_0 v), (47, a_0 v), (48, a_1 v), (49, a_4 v), (53, a_0 v), (54, a_2 v), (55, a_6 v)] (bS sr6 v).tm [o_0 v, o_1 v]
noncomputable def S21 (v : VO sr6) : St := nd [(44, a_0 v), (45, a_0 v), (47, a_0 v), (48, a_1 v), (49, a_4 v), (53, a_0 v), (54, a_2 v), (57, a_5 v)] (bS sr6 v).tm [o_0 v, o_1 v, o_3 v]
noncomputable def S22 (v : VO sr6) : St := nd [(9, a_7 v), (44, a_0 v), (45, a_0 v), (47, a_0 v), (48, a_1 v), (49, a_4 v), (53, a_0 v), (54, a_2 v)] (bS sr6 v).tm [o_0 v, o_1 v, o_4 v]
noncomputable def S23 (v : VO sr6) : St := nd [(44, a_0 v), (45, a_0 v), (47, a_0 v), (48, a_1 v), (51, a_5 v), (53, a_0 v), (54, a_2 v), (55, a_6 v)] (bS sr6 v).tm [o_0 v, o_1 v, o_2 v]
noncomputable def S24 (v : VO sr6) : St := nd [(44, a_0 v), (45, a_0 v), (47, a_0 v), (48, a_1 v), (51, a_5 v), (53, a_0 v), (54, a_2 v), (57, a_8 v)] (bS sr6 v).tm [o_0 v, o_1 v, o_2 v, o_3 v]
noncomputable def S25 (v : VO sr6) : St := nd [(9, a_7 v), (44, a_0 v), (45, a_0 v), (47, a_0 v), (48, a_1 v), (51, a_8 v), (53, a_0 v), (54, a_2 v)] (bS sr6 v).tm [o_0 v, o_1 v, o_4 v, o_2 v]
noncomputable def S26 (v : VO sr6) : St := nd [(44, a_0 v), (45, a_0 v), (47, a_0 v), (48, a_1 v), (53, a_0 v), (54, a_2 v), (55, a_6 v), (57, a_5 v)] (bS sr6 v).tm [o_0 v, o_1 v, o_3 v]
noncomputable def S27 (v : VO sr6) : St := nd [(9, a_7 v), (44, a_0 v), (45, a_0 v), (47, a_0 v), (48, a_1 v), (53, a_0 v), (54, a_2 v), (55, a_6 v)] (bS sr6 v).tm [o_0 v, o_1 v, o_4 v]
noncomputable def S28 (v : VO sr6) : St := nd [(9, a_7 v), (44, a_0 v), (45, a_0 v), (47, a_0 v), (48, a_1 v), (53, a_0 v), (54, a_2 v), (57, a_8 v)] (bS sr6 v).tm [o_0 v, o_1 v, o_4 v, o_3 v]
noncomputable def S29 (v : VO sr6) : St := nd [(44, a_0 v), (45, a_0 v), (46, a_3 v), (47, a_0 v), (48, a_1 v), (49, a_4 v), (50, a_5 v), (53, a_0 v), (54, a_2 v)] (bS sr6 v).tm [o_0 v, o_1 v, o_5 v]
noncomputable def S30 (v : VO sr6) : St := nd [(44, a_0 v), (45, a_0 v), (46, a_3 v), (47, a_0 v), (48, a_1 v), (49, a_4 v), (51, a_5 v), (53, a_0 v), (54, a_2 v)] (bS sr6 v).tm [o_0 v, o_1 v, o_2 v]
noncomputable def S31 (v : VO sr6) : St := nd [(44, a_0 v), (45, a_0 v), (46, a_3 v), (47, a_0 v), (48, a_1 v), (49, a_4 v), (53, a_0 v), (54, a_2 v), (55, a_6 v)] (bS sr6 v).tm [o_0 v, o_1 v]
noncomputable def S32 (v : VO sr6) : St := nd [(44, a_0 v), (45, a_0 v), (46, a_3 v), (47, a_0 v), (48, a_1 v), (49, a_4 v), (53, a_0 v), (54, a_2 v), (57, a_5 v)] (bS sr6 v).tm [o_0 v, o_1 v, o_3 v]
noncomputable def S33 (v : VO sr6) : St := nd [(9, a_7 v), (44, a_0 v), (45, a_0 v), (46, a_3 v), (47, a_0 v), (48, a_1 v), (49, a_4 v), (53, a_0 v), (54, a_2 v)] (bS sr6 v).tm [o_0 v, o_1 v, o_4 v]
noncomputable def S34 (v : VO sr6) : St := nd [(44, a_0 v), (45, a_0 v), (46, a_3 v), (47, a_0 v), (48, a_1 v), (51, a_5 v), (53, a_0 v), (54, a_2 v), (55, a_6 v)] (bS sr6 v).tm [o_0 v, o_1 v, o_2 v]
noncomputable def S35 (v : VO sr6) : St := nd [(44, a_0 v), (45, a_0 v), (46, a_3 v), (47, a_0 v), (48, a_1 v), (51, a_5 v), (53, a_0 v), (54, a_2 v), (57, a_8 v)] (bS sr6 v).tm [o_0 v, o_1 v, o_2 v, o_3 v]
noncomputable def S36 (v : VO sr6) : St := nd [(9, a_7 v), (44, a_0 v), (45, a_0 v), (46, a_3 v), (47, a_0 v), (48, a_1 v), (51, a_8 v), (53, a_0 v), (54, a_2 v)] (bS sr6 v).tm [o_0 v, o_1 v, o_4 v, o_2 v]
noncomputable def S37 (v : VO sr6) : St := nd [(44, a_0 v), (45, a_0 v), (46, a_3 v), (47, a_0 v), (48, a_1 v), (53, a_0 v), (54, a_2 v), (55, a_6 v), (57, a_5 v)] (bS sr6 v).tm [o_0 v, o_1 v, o_3 v]
noncomputable def S38 (v : VO sr6) : St := nd [(9, a_7 v), (44, a_0 v), (45, a_0 v), (46, a_3 v), (47, a_0 v), (48, a_1 v), (53, a_0 v), (54, a_2 v), (55, a_6 v)] (bS sr6 v).tm [o_0 v, o_1 v, o_4 v]
noncomputable def S39 (v : VO sr6) : St := nd [(9, a_7 v), (44, a_0 v), (45, a_0 v), (46, a_3 v), (47, a_0 v), (48, a_1 v), (53, a_0 v), (54, a_2 v), (57, a_8 v)] (bS sr6 v).tm [o_0 v, o_1 v, o_4 v, o_3 v]
noncomputable def S40 (v : VO sr6) : St := nd [(44, a_0 v), (45, a_0 v), (47, a_0 v), (48, a_1 v), (49, a_4 v), (50, a_5 v), (51, a_8 v), (53, a_0 v), (54, a_2 v)] (bS sr6 v).tm [o_0 v, o_1 v, o_5 v, o_2 v]
noncomputable def S41 (v : VO sr6) : St := nd [(44, a_0 v), (45, a_0 v), (47, a_0 v), (48, a_1 v), (49, a_4 v), (50, a_5 v), (53, a_0 v), (54, a_2 v), (55, a_6 v)] (bS sr6 v).tm [o_0 v, o_1 v, o_5 v]
noncomputable def S42 (v : VO sr6) : St := nd [(44, a_0 v), (45, a_0 v), (47, a_0 v), (48, a_1 v), (49, a_4 v), (50, a_5 v), (53, a_0 v), (54, a_2 v), (57, a_8 v)] (bS sr6 v).tm [o_0 v, o_1 v, o_5 v, o_3 v]
noncomputable def S43 (v : VO sr6) : St := nd [(9, a_7 v), (44, a_0 v), (45, a_0 v), (47, a_0 v), (48, a_1 v), (49, a_4 v), (50, a_8 v), (53, a_0 v), (54, a_2 v)] (bS sr6 v).tm [o_0 v, o_1 v, o_4 v, o_5 v]
noncomputable def S44 (v : VO sr6) : St := nd [(44, a_0 v), (45, a_0 v), (47, a_0 v), (48, a_1 v), (49, a_4 v), (51, a_5 v), (53, a_0 v), (54, a_2 v), (55, a_6 v)] (bS sr6 v).tm [o_0 v, o_1 v, o_2 v]
noncomputable def S45 (v : VO sr6) : St := nd [(44, a_0 v), (45, a_0 v), (47, a_0 v), (48, a_1 v), (49, a_4 v), (51, a_5 v), (53, a_0 v), (54, a_2 v), (57, a_8 v)] (bS sr6 v).tm [o_0 v, o_1 v, o_2 v, o_3 v]
noncomputable def S46 (v : VO sr6) : St := nd [(9, a_7 v), (44, a_0 v), (45, a_0 v), (47, a_0 v), (48, a_1 v), (49, a_4 v), (51, a_8 v), (53, a_0 v), (54, a_2 v)] (bS sr6 v).tm [o_0 v, o_1 v, o_4 v, o_2 v]
noncomputable def S47 (v : VO sr6) : St := nd [(44, a_0 v), (45, a_0 v), (47, a_0 v), (48, a_1 v), (49, a_4 v), (53, a_0 v), (54, a_2 v), (55, a_6 v), (57, a_5 v)] (bS sr6 v).tm [o_0 v, o_1 v, o_3 v]
noncomputable def S48 (v : VO sr6) : St := nd [(9, a_7 v), (44, a_0 v), (45, a_0 v), (47, a_0 v), (48, a_1 v), (49, a_4 v), (53, a_0 v), (54, a_2 v), (55, a_6 v)] (bS sr6 v).tm [o_0 v, o_1 v, o_4 v]
noncomputable def S49 (v : VO sr6) : St := nd [(9, a_7 v), (44, a_0 v), (45, a_0 v), (47, a_0 v), (48, a_1 v), (49, a_4 v), (53, a_0 v), (54, a_2 v), (57, a_8 v)] (bS sr6 v).tm [o_0 v, o_1 v, o_4 v, o_3 v]
noncomputable def S50 (v : VO sr6) : St := nd [(44, a_0 v), (45, a_0 v), (47, a_0 v), (48, a_1 v), (51, a_5 v), (53, a_0 v), (54, a_2 v), (55, a_6 v), (57, a_8 v)] (bS sr6 v).tm [o_0 v, o_1 v, o_2 v, o_3 v]
noncomputable def S51 (v : VO sr6) : St := nd [(9, a_7 v), (44, a_0 v), (45, a_0 v), (47, a_0 v), (48, a_1 v), (51, a_8 v), (53, a_0 v), (54, a_2 v), (55, a_6 v)] (bS sr6 v).tm [o_0 v, o_1 v, o_4 v, o_2 v]
noncomputable def S52 (v : VO sr6) : St := nd [(9, a_7 v), (44, a_0 v), (45, a_0 v), (47, a_0 v), (48, a_1 v), (51, a_8 v), (53, a_0 v), (54, a_2 v), (57, a_9 v)] (bS sr6 v).tm [o_0 v, o_1 v, o_4 v, o_2 v, o_3 v]
noncomputable def S53 (v : VO sr6) : St := nd [(9, a_7 v), (44, a_0 v), (45, a_0 v), (47, a_0 v), (48, a_1 v), (53, a_0 v), (54, a_2 v), (55, a_6 v), (57, a_8 v)] (bS sr6 v).tm [o_0 v, o_1 v, o_4 v, o_3 v]
noncomputable def S54 (v : VO sr6) : St := nd [(44, a_0 v), (45, a_0 v), (46, a_3 v), (47, a_0 v), (48, a_1 v), (49, a_4 v), (50, a_5 v), (51, a_8 v), (53, a_0 v), (54, a_2 v)] (bS sr6 v).tm [o_0 v, o_1 v, o_5 v, o_2 v]
noncomputable def S55 (v : VO sr6) : St := nd [(44, a_0 v), (45, a_0 v), (46, a_3 v), (47, a_0 v), (48, a_1 v), (49, a_4 v), (50, a_5 v), (53, a_0 v), (54, a_2 v), (55, a_6 v)] (bS sr6 v).tm [o_0 v, o_1 v, o_5 v]
noncomputable def S56 (v : VO sr6) : St := nd [(44, a_0 v), (45, a_0 v), (46, a_3 v), (47, a_0 v), (48, a_1 v), (49, a_4 v), (50, a_5 v), (53, a_0 v), (54, a_2 v), (57, a_8 v)] (bS sr6 v).tm [o_0 v, o_1 v, o_5 v, o_3 v]
noncomputable def S57 (v : VO sr6) : St := nd [(9, a_7 v), (44, a_0 v), (45, a_0 v), (46, a_3 v), (47, a_0 v), (48, a_1 v), (49, a_4 v), (50, a_8 v), (53, a_0 v), (54, a_2 v)] (bS sr6 v).tm [o_0 v, o_1 v, o_4 v, o_5 v]
noncomputable def S58 (v : VO sr6) : St := nd [(44, a_0 v), (45, a_0 v), (46, a_3 v), (47, a_0 v), (48, a_1 v), (49, a_4 v), (51, a_5 v), (53, a_0 v), (54, a_2 v), (55, a_6 v)] (bS sr6 v).tm [o_0 v, o_1 v, o_2 v]
noncomputable def S59 (v : VO sr6) : St := nd [(44, a_0 v), (45, a_0 v), (46, a_3 v), (47, a_0 v), (48, a_1 v), (49, a_4 v), (51, a_5 v), (53, a_0 v), (54, a_2 v), (57, a_8 v)] (bS sr6 v).tm [o_0 v, o_1 v, o_2 v, o_3 v]
noncomputable def S60 (v : VO sr6) : St := nd [(9, a_7 v), (44, a_0 v), (45, a_0 v), (46, a_3 v), (47, a_0 v), (48, a_1 v), (49, a_4 v), (51, a_8 v), (53, a_0 v), (54, a_2 v)] (bS sr6 v).tm [o_0 v, o_1 v, o_4 v, o_2 v]
noncomputable def S61 (v : VO sr6) : St := nd [(44, a_0 v), (45, a_0 v), (46, a_3 v), (47, a_0 v), (48, a_1 v), (49, a_4 v), (53, a_0 v), (54, a_2 v), (55, a_6 v), (57, a_5 v)] (bS sr6 v).tm [o_0 v, o_1 v, o_3 v]
noncomputable def S62 (v : VO sr6) : St := nd [(9, a_7 v), (44, a_0 v), (45, a_0 v), (46, a_3 v), (47, a_0 v), (48, a_1 v), (49, a_4 v), (53, a_0 v), (54, a_2 v), (55, a_6 v)] (bS sr6 v).tm [o_0 v, o_1 v, o_4 v]
noncomputable def S63 (v : VO sr6) : St := nd [(9, a_7 v), (44, a_0 v), (45, a_0 v), (46, a_3 v), (47, a_0 v), (48, a_1 v), (49, a_4 v), (53, a_0 v), (54, a_2 v), (57, a_8 v)] (bS sr6 v).tm [o_0 v, o_1 v, o_4 v, o_3 v]
noncomputable def S64 (v : VO sr6) : St := nd [(44, a_0 v), (45, a_0 v), (46, a_3 v), (47, a_0 v), (48, a_1 v), (51, a_5 v), (53, a_0 v), (54, a_2 v), (55, a_6 v), (57, a_8 v)] (bS sr6 v).tm [o_0 v, o_1 v, o_2 v, o_3 v]
noncomputable def S65 (v : VO sr6) : St := nd [(9, a_7 v), (44, a_0 v), (45, a_0 v), (46, a_3 v), (47, a_0 v), (48, a_1 v), (51, a_8 v), (53, a_0 v), (54, a_2 v), (55, a_6 v)] (bS sr6 v).tm [o_0 v, o_1 v, o_4 v, o_2 v]
noncomputable def S66 (v : VO sr6) : St := nd [(9, a_7 v), (44, a_0 v), (45, a_0 v), (46, a_3 v), (47, a_0 v), (48, a_1 v), (51, a_8 v), (53, a_0 v), (54, a_2 v), (57, a_9 v)] (bS sr6 v).tm [o_0 v, o_1 v, o_4 v, o_2 v, o_3 v]
noncomputable def S67 (v : VO sr6) : St := nd [(9, a_7 v), (44, a_0 v), (45, a_0 v), (46, a_3 v), (47, a_0 v), (48, a_1 v), (53, a_0 v), (54, a_2 v), (55, a_6 v), (57, a_8 v)] (bS sr6 v).tm [o_0 v, o_1 v, o_4 v, o_3 v]
noncomputable def S68 (v : VO sr6) : St := nd [(44, a_0 v), (45, a_0 v), (47, a_0 v), (48, a_1 v), (49, a_4 v), (51, a_5 v), (52, a_8 v), (53, a_0 v), (54, a_2 v)] (bS sr6 v).tm [o_0 v, o_1 v, o_2 v, o_6 v]
noncomputable def S69 (v : VO sr6) : St := nd [(44, a_0 v), (45, a_0 v), (47, a_0 v), (48, a_1 v), (49, a_4 v), (50, a_5 v), (51, a_8 v), (53, a_0 v), (54, a_2 v), (55, a_6 v)] (bS sr6 v).tm [o_0 v, o_1 v, o_5 v, o_2 v]
noncomputable def S70 (v : VO sr6) : St := nd [(44, a_0 v), (45, a_0 v), (47, a_0 v), (48, a_1 v), (49, a_4 v), (50, a_5 v), (51, a_8 v), (53, a_0 v), (54, a_2 v), (57, a_9 v)] (bS sr6 v).tm [o_0 v, o_1 v, o_5 v, o_2 v, o_3 v]
noncomputable def S71 (v : VO sr6) : St := nd [(9, a_7 v), (44, a_0 v), (45, a_0 v), (47, a_0 v), (48, a_1 v), (49, a_4 v), (50, a_8 v), (51, a_9 v), (53, a_0 v), (54, a_2 v)] (bS sr6 v).tm [o_0 v, o_1 v, o_4 v, o_5 v, o_2 v]
noncomputable def S72 (v : VO sr6) : St := nd [(44, a_0 v), (45, a_0 v), (47, a_0 v), (48, a_1 v), (49, a_4 v), (50, a_5 v), (53, a_0 v), (54, a_2 v), (55, a_6 v), (57, a_8 v)] (bS sr6 v).tm [o_0 v, o_1 v, o_5 v, o_3 v]
noncomputable def S73 (v : VO sr6) : St := nd [(9, a_7 v), (44, a_0 v), (45, a_0 v), (47, a_0 v), (48, a_1 v), (49, a_4 v), (50, a_8 v), (53, a_0 v), (54, a_2 v), (55, a_6 v)] (bS sr6 v).tm [o_0 v, o_1 v, o_4 v, o_5 v]
noncomputable def S74 (v : VO sr6) : St := nd [(9, a_7 v), (44, a_0 v), (45, a_0 v), (47, a_0 v), (48, a_1 v), (49, a_4 v), (50, a_8 v), (53, a_0 v), (54, a_2 v), (57, a_9 v)] (bS sr6 v).tm [o_0 v, o_1 v, o_4 v, o_5 v, o_3 v]
noncomputable def S75 (v : VO sr6) : St := nd [(44, a_0 v), (45, a_0 v), (47, a_0 v), (48, a_1 v), (49, a_4 v), (51, a_5 v), (53, a_0 v), (54, a_2 v), (55, a_6 v), (57, a_8 v)] (bS sr6 v).tm [o_0 v, o_1 v, o_2 v, o_3 v]
noncomputable def S76 (v : VO sr6) : St := nd [(9, a_7 v), (44, a_0 v), (45, a_0 v), (47, a_0 v), (48, a_1 v), (49, a_4 v), (51, a_8 v), (53, a_0 v), (54, a_2 v), (55, a_6 v)] (bS sr6 v).tm [o_0 v, o_1 v, o_4 v, o_2 v]
noncomputable def S77 (v : VO sr6) : St := nd [(9, a_7 v), (44, a_0 v), (45, a_0 v), (47, a_0 v), (48, a_1 v), (49, a_4 v), (51, a_8 v), (53, a_0 v), (54, a_2 v), (57, a_9 v)] (bS sr6 v).tm [o_0 v, o_1 v, o_4 v, o_2 v, o_3 v]
noncomputable def S78 (v : VO sr6) : St := nd [(9, a_7 v), (44, a_0 v), (45, a_0 v), (47, a_0 v), (48, a_1 v), (49, a_4 v), (53, a_0 v), (54, a_2 v), (55, a_6 v), (57, a_8 v)] (bS sr6 v).tm [o_0 v, o_1 v, o_4 v, o_3 v]
noncomputable def S79 (v : VO sr6) : St := nd [(9, a_7 v), (44, a_0 v), (45, a_0 v), (47, a_0 v), (48, a_1 v), (51, a_8 v), (53, a_0 v), (54, a_2 v), (55, a_6 v), (57, a_9 v)] (bS sr6 v).tm [o_0 v, o_1 v, o_4 v, o_2 v, o_3 v]
noncomputable def S80 (v : VO sr6) : St := nd [(44, a_0 v), (45, a_0 v), (46, a_3 v), (47, a_0 v), (48, a_1 v), (49, a_4 v), (51, a_5 v), (52, a_8 v), (53, a_0 v), (54, a_2 v)] (bS sr6 v).tm [o_0 v, o_1 v, o_2 v, o_6 v]
noncomputable def S81 (v : VO sr6) : St := nd [(44, a_0 v), (45, a_0 v), (46, a_3 v), (47, a_0 v), (48, a_1 v), (49, a_4 v), (50, a_5 v), (51, a_8 v), (53, a_0 v), (54, a_2 v), (55, a_6 v)] (bS sr6 v).tm [o_0 v, o_1 v, o_5 v, o_2 v]
noncomputable def S82 (v : VO sr6) : St := nd [(44, a_0 v), (45, a_0 v), (46, a_3 v), (47, a_0 v), (48, a_1 v), (49, a_4 v), (50, a_5 v), (51, a_8 v), (53, a_0 v), (54, a_2 v), (57, a_9 v)] (bS sr6 v).tm [o_0 v, o_1 v, o_5 v, o_2 v, o_3 v]
noncomputable def S83 (v : VO sr6) : St := nd [(9, a_7 v), (44, a_0 v), (45, a_0 v), (46, a_3 v), (47, a_0 v), (48, a_1 v), (49, a_4 v), (50, a_8 v), (51, a_9 v), (53, a_0 v), (54, a_2 v)] (bS sr6 v).tm [o_0 v, o_1 v, o_4 v, o_5 v, o_2 v]
noncomputable def S84 (v : VO sr6) : St := nd [(44, a_0 v), (45, a_0 v), (46, a_3 v), (47, a_0 v), (48, a_1 v), (49, a_4 v), (50, a_5 v), (53, a_0 v), (54, a_2 v), (55, a_6 v), (57, a_8 v)] (bS sr6 v).tm [o_0 v, o_1 v, o_5 v, o_3 v]
noncomputable def S85 (v : VO sr6) : St := nd [(9, a_7 v), (44, a_0 v), (45, a_0 v), (46, a_3 v), (47, a_0 v), (48, a_1 v), (49, a_4 v), (50, a_8 v), (53, a_0 v), (54, a_2 v), (55, a_6 v)] (bS sr6 v).tm [o_0 v, o_1 v, o_4 v, o_5 v]
noncomputable def S86 (v : VO sr6) : St := nd [(9, a_7 v), (44, a_0 v), (45, a_0 v), (46, a_3 v), (47, a_0 v), (48, a_1 v), (49, a_4 v), (50, a_8 v), (53, a_0 v), (54, a_2 v), (57, a_9 v)] (bS sr6 v).tm [o_0 v, o_1 v, o_4 v, o_5 v, o_3 v]
noncomputable def S87 (v : VO sr6) : St := nd [(44, a_0 v), (45, a_0 v), (46, a_3 v), (47, a_0 v), (48, a_1 v), (49, a_4 v), (51, a_5 v), (53, a_0 v), (54, a_2 v), (55, a_6 v), (57, a_8 v)] (bS sr6 v).tm [o_0 v, o_1 v, o_2 v, o_3 v]
noncomputable def S88 (v : VO sr6) : St := nd [(9, a_7 v), (44, a_0 v), (45, a_0 v), (46, a_3 v), (47, a_0 v), (48, a_1 v), (49, a_4 v), (51, a_8 v), (53, a_0 v), (54, a_2 v), (55, a_6 v)] (bS sr6 v).tm [o_0 v, o_1 v, o_4 v, o_2 v]
noncomputable def S89 (v : VO sr6) : St := nd [(9, a_7 v), (44, a_0 v), (45, a_0 v), (46, a_3 v), (47, a_0 v), (48, a_1 v), (49, a_4 v), (51, a_8 v), (53, a_0 v), (54, a_2 v), (57, a_9 v)] (bS sr6 v).tm [o_0 v, o_1 v, o_4 v, o_2 v, o_3 v]
noncomputable def S90 (v : VO sr6) : St := nd [(9, a_7 v), (44, a_0 v), (45, a_0 v), (46, a_3 v), (47, a_0 v), (48, a_1 v), (49, a_4 v), (53, a_0 v), (54, a_2 v), (55, a_6 v), (57, a_8 v)] (bS sr6 v).tm [o_0 v, o_1 v, o_4 v, o_3 v]
noncomputable def S91 (v : VO sr6) : St := nd [(9, a_7 v), (44, a_0 v), (45, a_0 v), (46, a_3 v), (47, a_0 v), (48, a_1 v), (51, a_8 v), (53, a_0 v), (54, a_2 v), (55, a_6 v), (57, a_9 v)] (bS sr6 v).tm [o_0 v, o_1 v, o_4 v, o_2 v, o_3 v]
noncomputable def S92 (v : VO sr6) : St := nd [(44, a_0 v), (45, a_0 v), (47, a_0 v), (48, a_1 v), (49, a_4 v), (51, a_5 v), (52, a_8 v), (53, a_0 v), (54, a_2 v), (55, a_6 v)] (bS sr6 v).tm [o_0 v, o_1 v, o_2 v, o_6 v]
noncomputable def S93 (v : VO sr6) : St := nd [(44, a_0 v), (45, a_0 v), (47, a_0 v), (48, a_1 v), (49, a_4 v), (51, a_5 v), (52, a_8 v), (53, a_0 v), (54, a_2 v), (57, a_9 v)] (bS sr6 v).tm [o_0 v, o_1 v, o_2 v, o_6 v, o_3 v]
noncomputable def S94 (v : VO sr6) : St := nd [(9, a_7 v), (44, a_0 v), (45, a_0 v), (47, a_0 v), (48, a_1 v), (49, a_4 v), (51, a_8 v), (52, a_9 v), (53, a_0 v), (54, a_2 v)] (bS sr6 v).tm [o_0 v, o_1 v, o_4 v, o_2 v, o_6 v]
noncomputable def S95 (v : VO sr6) : St := nd [(44, a_0 v), (45, a_0 v), (47, a_0 v), (48, a_1 v), (49, a_4 v), (50, a_5 v), (51, a_8 v), (53, a_0 v), (54, a_2 v), (55, a_6 v), (57, a_9 v)] (bS sr6 v).tm [o_0 v, o_1 v, o_5 v, o_2 v, o_3 v]
noncomputable def S96 (v : VO sr6) : St := nd [(9, a_7 v), (44, a_0 v), (45, a_0 v), (47, a_0 v), (48, a_1 v), (49, a_4 v), (50, a_8 v), (51, a_9 v), (53, a_0 v), (54, a_2 v), (55, a_6 v)] (bS sr6 v).tm [o_0 v, o_1 v, o_4 v, o_5 v, o_2 v]
noncomputable def S97 (v : VO sr6) : St := nd [(9, a_7 v), (44, a_0 v), (45, a_0 v), (47, a_0 v), (48, a_1 v), (49, a_4 v), (50, a_8 v), (51, a_9 v), (53, a_0 v), (54, a_2 v), (57, a_10 v)] (bS sr6 v).tm [o_0 v, o_1 v, o_4 v, o_5 v, o_2 v, o_3 v]
noncomputable def S98 (v : VO sr6) : St := nd [(9, a_7 v), (44, a_0 v), (45, a_0 v), (47, a_0 v), (48, a_1 v), (49, a_4 v), (50, a_8 v), (53, a_0 v), (54, a_2 v), (55, a_6 v), (57, a_9 v)] (bS sr6 v).tm [o_0 v, o_1 v, o_4 v, o_5 v, o_3 v]
noncomputable def S99 (v : VO sr6) : St := nd [(9, a_7 v), (44, a_0 v), (45, a_0 v), (47, a_0 v), (48, a_1 v), (49, a_4 v), (51, a_8 v), (53, a_0 v), (54, a_2 v), (55, a_6 v), (57, a_9 v)] (bS sr6 v).tm [o_0 v, o_1 v, o_4 v, o_2 v, o_3 v]
noncomputable def S100 (v : VO sr6) : St := nd [(44, a_0 v), (45, a_0 v), (46, a_3 v), (47, a_0 v), (48, a_1 v), (49, a_4 v), (51, a_5 v), (52, a_8 v), (53, a_0 v), (54, a_2 v), (55, a_6 v)] (bS sr6 v).tm [o_0 v, o_1 v, o_2 v, o_6 v]
noncomputable def S101 (v : VO sr6) : St := nd [(44, a_0 v), (45, a_0 v), (46, a_3 v), (47, a_0 v), (48, a_1 v), (49, a_4 v), (51, a_5 v), (52, a_8 v), (53, a_0 v), (54, a_2 v), (57, a_9 v)] (bS sr6 v).tm [o_0 v, o_1 v, o_2 v, o_6 v, o_3 v]
noncomputable def S102 (v : VO sr6) : St := nd [(9, a_7 v), (44, a_0 v), (45, a_0 v), (46, a_3 v), (47, a_0 v), (48, a_1 v), (49, a_4 v), (51, a_8 v), (52, a_9 v), (53, a_0 v), (54, a_2 v)] (bS sr6 v).tm [o_0 v, o_1 v, o_4 v, o_2 v, o_6 v]
noncomputable def S103 (v : VO sr6) : St := nd [(44, a_0 v), (45, a_0 v), (46, a_3 v), (47, a_0 v), (48, a_1 v), (49, a_4 v), (50, a_5 v), (51, a_8 v), (53, a_0 v), (54, a_2 v), (55, a_6 v), (57, a_9 v)] (bS sr6 v).tm [o_0 v, o_1 v, o_5 v, o_2 v, o_3 v]
noncomputable def S104 (v : VO sr6) : St := nd [(9, a_7 v), (44, a_0 v), (45, a_0 v), (46, a_3 v), (47, a_0 v), (48, a_1 v), (49, a_4 v), (50, a_8 v), (51, a_9 v), (53, a_0 v), (54, a_2 v), (55, a_6 v)] (bS sr6 v).tm [o_0 v, o_1 v, o_4 v, o_5 v, o_2 v]
noncomputable def S105 (v : VO sr6) : St := nd [(9, a_7 v), (44, a_0 v), (45, a_0 v), (46, a_3 v), (47, a_0 v), (48, a_1 v), (49, a_4 v), (50, a_8 v), (51, a_9 v), (53, a_0 v), (54, a_2 v), (57, a_10 v)] (bS sr6 v).tm [o_0 v, o_1 v, o_4 v, o_5 v, o_2 v, o_3 v]
noncomputable def S106 (v : VO sr6) : St := nd [(9, a_7 v), (44, a_0 v), (45, a_0 v), (46, a_3 v), (47, a_0 v), (48, a_1 v), (49, a_4 v), (50, a_8 v), (53, a_0 v), (54, a_2 v), (55, a_6 v), (57, a_9 v)] (bS sr6 v).tm [o_0 v, o_1 v, o_4 v, o_5 v, o_3 v]
noncomputable def S107 (v : VO sr6) : St := nd [(9, a_7 v), (44, a_0 v), (45, a_0 v), (46, a_3 v), (47, a_0 v), (48, a_1 v), (49, a_4 v), (51, a_8 v), (53, a_0 v), (54, a_2 v), (55, a_6 v), (57, a_9 v)] (bS sr6 v).tm [o_0 v, o_1 v, o_4 v, o_2 v, o_3 v]
noncomputable def S108 (v : VO sr6) : St := nd [(44, a_0 v), (45, a_0 v), (47, a_0 v), (48, a_1 v), (49, a_4 v), (51, a_5 v), (52, a_8 v), (53, a_0 v), (54, a_2 v), (55, a_6 v), (56, a_9 v)] (bS sr6 v).tm [o_0 v, o_1 v, o_2 v, o_6 v, o_7 v]
noncomputable def S109 (v : VO sr6) : St := nd [(44, a_0 v), (45, a_0 v), (47, a_0 v), (48, a_1 v), (49, a_4 v), (51, a_5 v), (52, a_8 v), (53, a_0 v), (54, a_2 v), (55, a_6 v), (57, a_9 v)] (bS sr6 v).tm [o_0 v, o_1 v, o_2 v, o_6 v, o_3 v]
noncomputable def S110 (v : VO sr6) : St := nd [(9, a_7 v), (44, a_0 v), (45, a_0 v), (47, a_0 v), (48, a_1 v), (49, a_4 v), (51, a_8 v), (52, a_9 v), (53, a_0 v), (54, a_2 v), (55, a_6 v)] (bS sr6 v).tm [o_0 v, o_1 v, o_4 v, o_2 v, o_6 v]
noncomputable def S111 (v : VO sr6) : St := nd [(9, a_7 v), (44, a_0 v), (45, a_0 v), (47, a_0 v), (48, a_1 v), (49, a_4 v), (51, a_8 v), (52, a_9 v), (53, a_0 v), (54, a_2 v), (57, a_10 v)] (bS sr6 v).tm [o_0 v, o_1 v, o_4 v, o_2 v, o_6 v, o_3 v]
noncomputable def S112 (v : VO sr6) : St := nd [(9, a_7 v), (44, a_0 v), (45, a_0 v), (47, a_0 v), (48, a_1 v), (49, a_4 v), (50, a_8 v), (51, a_9 v), (53, a_0 v), (54, a_2 v), (55, a_6 v), (57, a_10 v)] (bS sr6 v).tm [o_0 v, o_1 v, o_4 v, o_5 v, o_2 v, o_3 v]
noncomputable def S113 (v : VO sr6) : St := nd [(44, a_0 v), (45, a_0 v), (46, a_3 v), (47, a_0 v), (48, a_1 v), (49, a_4 v), (51, a_5 v), (52, a_8 v), (53, a_0 v), (54, a_2 v), (55, a_6 v), (56, a_9 v)] (bS sr6 v).tm [o_0 v, o_1 v, o_2 v, o_6 v, o_7 v]
noncomputable def S114 (v : VO sr6) : St := nd [(44, a_0 v), (45, a_0 v), (46, a_3 v), (47, a_0 v), (48, a_1 v), (49, a_4 v), (51, a_5 v), (52, a_8 v), (53, a_0 v), (54, a_2 v), (55, a_6 v), (57, a_9 v)] (bS sr6 v).tm [o_0 v, o_1 v, o_2 v, o_6 v, o_3 v]
noncomputable def S115 (v : VO sr6) : St := nd [(9, a_7 v), (44, a_0 v), (45, a_0 v), (46, a_3 v), (47, a_0 v), (48, a_1 v), (49, a_4 v), (51, a_8 v), (52, a_9 v), (53, a_0 v), (54, a_2 v), (55, a_6 v)] (bS sr6 v).tm [o_0 v, o_1 v, o_4 v, o_2 v, o_6 v]
noncomputable def S116 (v : VO sr6) : St := nd [(9, a_7 v), (44, a_0 v), (45, a_0 v), (46, a_3 v), (47, a_0 v), (48, a_1 v), (49, a_4 v), (51, a_8 v), (52, a_9 v), (53, a_0 v), (54, a_2 v), (57, a_10 v)] (bS sr6 v).tm [o_0 v, o_1 v, o_4 v, o_2 v, o_6 v, o_3 v]
noncomputable def S117 (v : VO sr6) : St := nd [(9, a_7 v), (44, a_0 v), (45, a_0 v), (46, a_3 v), (47, a_0 v), (48, a_1 v), (49, a_4 v), (50, a_8 v), (51, a_9 v), (53, a_0 v), (54, a_2 v), (55, a_6 v), (57, a_10 v)] (bS sr6 v).tm [o_0 v, o_1 v, o_4 v, o_5 v, o_2 v, o_3 v]
noncomputable def S118 (v : VO sr6) : St := nd [(44, a_0 v), (45, a_0 v), (47, a_0 v), (48, a_1 v), (49, a_4 v), (51, a_5 v), (52, a_8 v), (53, a_0 v), (54, a_2 v), (55, a_6 v), (56, a_9 v), (57, a_10 v)] (bS sr6 v).tm [o_0 v, o_1 v, o_2 v, o_6 v, o_7 v, o_3 v]
noncomputable def S119 (v : VO sr6) : St := nd [(9, a_7 v), (44, a_0 v), (45, a_0 v), (47, a_0 v), (48, a_1 v), (49, a_4 v), (51, a_8 v), (52, a_9 v), (53, a_0 v), (54, a_2 v), (55, a_6 v), (56, a_10 v)] (bS sr6 v).tm [o_0 v, o_1 v, o_4 v, o_2 v, o_6 v, o_7 v]
noncomputable def S120 (v : VO sr6) : St := nd [(9, a_7 v), (44, a_0 v), (45, a_0 v), (47, a_0 v), (48, a_1 v), (49, a_4 v), (51, a_8 v), (52, a_9 v), (53, a_0 v), (54, a_2 v), (55, a_6 v), (57, a_10 v)] (bS sr6 v).tm [o_0 v, o_1 v, o_4 v, o_2 v, o_6 v, o_3 v]
noncomputable def S121 (v : VO sr6) : St := nd [(44, a_0 v), (45, a_0 v), (46, a_3 v), (47, a_0 v), (48, a_1 v), (49, a_4 v), (51, a_5 v), (52, a_8 v), (53, a_0 v), (54, a_2 v), (55, a_6 v), (56, a_9 v), (57, a_10 v)] (bS sr6 v).tm [o_0 v, o_1 v, o_2 v, o_6 v, o_7 v, o_3 v]
noncomputable def S122 (v : VO sr6) : St := nd [(9, a_7 v), (44, a_0 v), (45, a_0 v), (46, a_3 v), (47, a_0 v), (48, a_1 v), (49, a_4 v), (51, a_8 v), (52, a_9 v), (53, a_0 v), (54, a_2 v), (55, a_6 v), (56, a_10 v)] (bS sr6 v).tm [o_0 v, o_1 v, o_4 v, o_2 v, o_6 v, o_7 v]
noncomputable def S123 (v : VO sr6) : St := nd [(9, a_7 v), (44, a_0 v), (45, a_0 v), (46, a_3 v), (47, a_0 v), (48, a_1 v), (49, a_4 v), (51, a_8 v), (52, a_9 v), (53, a_0 v), (54, a_2 v), (55, a_6 v), (57, a_10 v)] (bS sr6 v).tm [o_0 v, o_1 v, o_4 v, o_2 v, o_6 v, o_3 v]
noncomputable def S124 (v : VO sr6) : St := nd [(44, a_0 v), (45, a_0 v), (47, a_0 v), (48, a_1 v), (49, a_4 v), (51, a_5 v), (52, a_8 v), (53, a_0 v), (54, a_2 v), (55, a_6 v), (57, a_9 v), (58, a_10 v)] (bS sr6 v).tm [o_0 v, o_1 v, o_2 v, o_6 v, o_3 v, o_8 v]
noncomputable def S125 (v : VO sr6) : St := nd [(9, a_7 v), (44, a_0 v), (45, a_0 v), (47, a_0 v), (48, a_1 v), (49, a_4 v), (51, a_8 v), (52, a_9 v), (53, a_0 v), (54, a_2 v), (55, a_6 v), (56, a_10 v), (57, a_11 v)] (bS sr6 v).tm [o_0 v, o_1 v, o_4 v, o_2 v, o_6 v, o_7 v, o_3 v]
noncomputable def S126 (v : VO sr6) : St := nd [(44, a_0 v), (45, a_0 v), (46, a_3 v), (47, a_0 v), (48, a_1 v), (49, a_4 v), (51, a_5 v), (52, a_8 v), (53, a_0 v), (54, a_2 v), (55, a_6 v), (57, a_9 v), (58, a_10 v)] (bS sr6 v).tm [o_0 v, o_1 v, o_2 v, o_6 v, o_3 v, o_8 v]
noncomputable def S127 (v : VO sr6) : St := nd [(9, a_7 v), (44, a_0 v), (45, a_0 v), (46, a_3 v), (47, a_0 v), (48, a_1 v), (49, a_4 v), (51, a_8 v), (52, a_9 v), (53, a_0 v), (54, a_2 v), (55, a_6 v), (56, a_10 v), (57, a_11 v)] (bS sr6 v).tm [o_0 v, o_1 v, o_4 v, o_2 v, o_6 v, o_7 v, o_3 v]
noncomputable def S128 (v : VO sr6) : St := nd [(9, a_7 v), (44, a_0 v), (45, a_0 v), (47, a_0 v), (48, a_1 v), (49, a_4 v), (51, a_8 v), (52, a_9 v), (53, a_0 v), (54, a_2 v), (55, a_6 v), (57, a_10 v), (58, a_11 v)] (bS sr6 v).tm [o_0 v, o_1 v, o_4 v, o_2 v, o_6 v, o_3 v, o_8 v]
noncomputable def S129 (v : VO sr6) : St := nd [(44, a_0 v), (45, a_0 v), (46, a_3 v), (47, a_0 v), (48, a_1 v), (49, a_4 v), (51, a_5 v), (52, a_8 v), (53, a_0 v), (54, a_2 v), (55, a_6 v), (57, a_9 v), (58, a_10 v), (59, a_12 v)] (bS sr6 v).tm [o_0 v, o_1 v, o_2 v, o_6 v, o_3 v, o_8 v]
noncomputable def S130 (v : VO sr6) : St := nd [(9, a_7 v), (44, a_0 v), (45, a_0 v), (46, a_3 v), (47, a_0 v), (48, a_1 v), (49, a_4 v), (51, a_8 v), (52, a_9 v), (53, a_0 v), (54, a_2 v), (55, a_6 v), (57, a_10 v), (58, a_11 v)] (bS sr6 v).tm [o_0 v, o_1 v, o_4 v, o_2 v, o_6 v, o_3 v, o_8 v]
noncomputable def S131 (v : VO sr6) : St := nd [(9, a_7 v), (44, a_0 v), (45, a_0 v), (46, a_3 v), (47, a_0 v), (48, a_1 v), (49, a_4 v), (51, a_8 v), (52, a_9 v), (53, a_0 v), (54, a_2 v), (55, a_6 v), (57, a_10 v), (58, a_11 v), (59, a_13 v)] (bS sr6 v).tm [o_0 v, o_1 v, o_4 v, o_2 v, o_6 v, o_3 v, o_8 v]
noncomputable def S132 (v : VO sr6) : St := nd [(9, a_7 v)] (bS sr6 v).tm [o_0 v, o_1 v, o_9 v, o_6 v, o_8 v]
noncomputable def COr6_0 (v : VO sr6) : Prop := match v with
  | ((l5, n8, _), ((c0x0, c0x1, c0x2, c0x3, c0x4, c0x5, _), r1, _)) => IntsO.pre c0x4 = Bool.true
noncomputable instance (v : VO sr6) : Decidable (COr6_0 v) := match v with
  | ((l5, n8, _), ((c0x0, c0x1, c0x2, c0x3, c0x4, c0x5, _), r1, _)) => inferInstanceAs (Decidable (IntsO.pre c0x4 = Bool.true))
noncomputable def COr6_1 (v : VO sr6) : Prop := match v with
  | ((l5, n8, _), ((c0x0, c0x1, c0x2, c0x3, c0x4, c0x5, _), r1, _)) => (List.length (IntsO.fn c0x4).1 + List.length [(202 : Int)]) * (8 : Nat) ≤ (140737488355328 : Nat)
noncomputable instance (v : VO sr6) : Decidable (COr6_1 v) := match v with
  | ((l5, n8, _), ((c0x0, c0x1, c0x2, c0x3, c0x4, c0x5, _), r1, _)) => inferInstanceAs (Decidable ((List.length (IntsO.fn c0x4).1 + List.length [(202 : Int)]) * (8 : Nat) ≤ (140737488355328 : Nat)))
noncomputable def COr6_2 (v : VO sr6) : Prop := match v with
  | ((l5, n8, _), ((c0x0, c0x1, c0x2, c0x3, c0x4, c0x5, _), r1, _)) => BoolsO.pre c0x5 = Bool.true
noncomputable instance (v : VO sr6) : Decidable (COr6_2 v) := match v with
  | ((l5, n8, _), ((c0x0, c0x1, c0x2, c0x3, c0x4, c0x5, _), r1, _)) => inferInstanceAs (Decidable (BoolsO.pre c0x5 = Bool.true))
noncomputable def COr6_3 (v : VO sr6) : Prop := match v with
  | ((l5, n8, _), ((c0x0, c0x1, c0x2, c0x3, c0x4, c0x5, _), r1, _)) => (List.length (BoolsO.fn c0x5).1 + List.length [Bool.true]) * (1 : Nat) ≤ (140737488355328 : Nat)
noncomputable instance (v : VO sr6) : Decidable (COr6_3 v) := match v with
  | ((l5, n8, _), ((c0x0, c0x1, c0x2, c0x3, c0x4, c0x5, _), r1, _)) => inferInstanceAs (Decidable ((List.length (BoolsO.fn c0x5).1 + List.length [Bool.true]) * (1 : Nat) ≤ (140737488355328 : Nat)))
noncomputable def Cr6 (v : VO sr6) : Prop := COr6_0 v ∧ COr6_1 v ∧ COr6_2 v ∧ COr6_3 v ∧ True
theorem ge {i : Nat} {st st1 : St} (hs : (opsr6[i]?).isSome = true) (he : ∀ (R : Type) (k : St → Option R), (match opsr6[i]? with
    | some oi => opG env opsr6.toList oi st (fun st' => canon env.own hhr6e st' k)
    | none => none) = k st1) : EdgeOk env opsr6 i st st1 := edge_of hhr6e hs he
theorem fc {α : Type} {P : α → Prop} {a : α} {l : List α} (h : P a) (k : ∀ x ∈ l, P x) : ∀ x ∈ a :: l, P x := List.forall_mem_cons.2 ⟨h, k⟩
theorem fz {α : Type} {P : α → Prop} : ∀ x ∈ ([] : List α), P x := fun x h => by cases h
theorem g {i : Nat} {st st1 : St} (hs : (opsr6[i]?).isSome = true) (he : ∀ (R : Type) (k : St → Option R), (match opsr6[i]? with
    | some oi => opG env opsr6.toList oi st (fun st' => canon env.own hhr6 st' k)
    | none => none) = k st1) : EdgeOk env opsr6 i st st1 := edge_of hhr6 hs he
theorem D132 (v : VO sr6) (c : Cr6 v) : Dag env opsr6 (S132 v) (mk 262143) (S132 v) := .done (by kernel_rfl)
theorem D131 (v : VO sr6) (c : Cr6 v) : Dag env opsr6 (S132 v) (mk 131071) (S131 v) := .fork [(17, (mk 262143), S132 v)] (by kernel_rfl) (by simp) (fc ⟨by kernel_rfl, ge (by kernel_rfl) (fun R k => by kernel_rfl), D132 v c⟩ fz)
theorem D130 (v : VO sr6) (c : Cr6 v) : Dag env opsr6 (S132 v) (mk 98303) (S130 v) := .step1 15 (S131 v) (by kernel_rfl) (by kernel_rfl) (g (by kernel_rfl) (fun R k => by kernel_rfl)) (D131 v c)
theorem D129 (v : VO sr6) (c : Cr6 v) : Dag env opsr6 (S132 v) (mk 65535) (S129 v) := .fork [(16, (mk 131071), S131 v)] (by kernel_rfl) (by simp) (fc ⟨by kernel_rfl, g (by kernel_rfl) (fun R k => by kernel_rfl), D131 v c⟩ fz)
theorem D128 (v : VO sr6) (c : Cr6 v) : Dag env opsr6 (S132 v) (mk 98299) (S128 v) := .fork [(2, (mk 98303), S130 v)] (by kernel_rfl) (by simp) (fc ⟨by kernel_rfl, g (by kernel_rfl) (fun R k => by kernel_rfl), D130 v c⟩ fz)
theorem D127 (v : VO sr6) (c : Cr6 v) : Dag env opsr6 (S132 v) (mk 81919) (S127 v) := .fork [(14, (mk 98303), S130 v)] (by kernel_rfl) (by simp) (fc ⟨by kernel_rfl, g (by kernel_rfl) (fun R k => Eq.trans (b := (if COr6_3 v then k (S130 v) else none)) (by kernel_rfl) (by rw [if_pos (c.2.2.2.1)])), D130 v c⟩ fz)
theorem D126 (v : VO sr6) (c : Cr6 v) : Dag env opsr6 (S132 v) (mk 32767) (S126 v) := .step1 15 (S129 v) (by kernel_rfl) (by kernel_rfl) (g (by kernel_rfl) (fun R k => by kernel_rfl)) (D129 v c)
theorem D125 (v : VO sr6) (c : Cr6 v) : Dag env opsr6 (S132 v) (mk 81915) (S125 v) := .fork [(2, (mk 81919), S127 v), (14, (mk 98299), S128 v)] (by kernel_rfl) (by simp) (fc ⟨by kernel_rfl, g (by kernel_rfl) (fun R k => by kernel_rfl), D127 v c⟩ (fc ⟨by kernel_rfl, g (by kernel_rfl) (fun R k => Eq.trans (b := (if COr6_3 v then k (S128 v) else none)) (by kernel_rfl) (by rw [if_pos (c.2.2.2.1)])), D128 v c⟩ fz))
theorem D124 (v : VO sr6) (c : Cr6 v) : Dag env opsr6 (S132 v) (mk 32763) (S124 v) := .fork [(2, (mk 32767), S126 v), (16, (mk 98299), S128 v)] (by kernel_rfl) (by simp) (fc ⟨by kernel_rfl, g (by kernel_rfl) (fun R k => by kernel_rfl), D126 v c⟩ (fc ⟨by kernel_rfl, g (by kernel_rfl) (fun R k => by kernel_rfl), D128 v c⟩ fz))
theorem D123 (v : VO sr6) (c : Cr6 v) : Dag env opsr6 (S132 v) (mk 77823) (S123 v) := .fork [(12, (mk 81919), S127 v)] (by kernel_rfl) (by simp) (fc ⟨by kernel_rfl, g (by kernel_rfl) (fun R k => Eq.trans (b := (if COr6_2 v then k (S127 v) else none)) (by kernel_rfl) (by rw [if_pos (c.2.2.1)])), D127 v c⟩ fz)
theorem D122 (v : VO sr6) (c : Cr6 v) : Dag env opsr6 (S132 v) (mk 73727) (S122 v) := .fork [(13, (mk 81919), S127 v)] (by kernel_rfl) (by simp) (fc ⟨by kernel_rfl, g (by kernel_rfl) (fun R k => by kernel_rfl), D127 v c⟩ fz)
theorem D121 (v : VO sr6) (c : Cr6 v) : Dag env opsr6 (S132 v) (mk 16383) (S121 v) := .fork [(14, (mk 32767), S126 v), (16, (mk 81919), S127 v)] (by kernel_rfl) (by simp) (fc ⟨by kernel_rfl, g (by kernel_rfl) (fun R k => Eq.trans (b := (if COr6_3 v then k (S126 v) else none)) (by kernel_rfl) (by rw [if_pos (c.2.2.2.1)])), D126 v c⟩ (fc ⟨by kernel_rfl, g (by kernel_rfl) (fun R k => by kernel_rfl), D127 v c⟩ fz))
theorem D120 (v : VO sr6) (c : Cr6 v) : Dag env opsr6 (S132 v) (mk 77819) (S120 v) := .fork [(2, (mk 77823), S123 v), (12, (mk 81915), S125 v)] (by kernel_rfl) (by simp) (fc ⟨by kernel_rfl, g (by kernel_rfl) (fun R k => by kernel_rfl), D123 v c⟩ (fc ⟨by kernel_rfl, g (by kernel_rfl) (fun R k => Eq.trans (b := (if COr6_2 v then k (S125 v) else none)) (by kernel_rfl) (by rw [if_pos (c.2.2.1)])), D125 v c⟩ fz))
theorem D119 (v : VO sr6) (c : Cr6 v) : Dag env opsr6 (S132 v) (mk 73723) (S119 v) := .fork [(2, (mk 73727), S122 v), (13, (mk 81915), S125 v)] (by kernel_rfl) (by simp) (fc ⟨by kernel_rfl, g (by kernel_rfl) (fun R k => by kernel_rfl), D122 v c⟩ (fc ⟨by kernel_rfl, g (by kernel_rfl) (fun R k => by kernel_rfl), D125 v c⟩ fz))
theorem D118 (v : VO sr6) (c : Cr6 v) : Dag env opsr6 (S132 v) (mk 16379) (S118 v) := .fork [(2, (mk 16383), S121 v), (14, (mk 32763), S124 v), (16, (mk 81915), S125 v)] (by kernel_rfl) (by simp) (fc ⟨by kernel_rfl, g (by kernel_rfl) (fun R k => by kernel_rfl), D121 v c⟩ (fc ⟨by kernel_rfl, g (by kernel_rfl) (fun R k => Eq.trans (b := (if COr6_3 v then k (S124 v) else none)) (by kernel_rfl) (by rw [if_pos (c.2.2.2.1)])), D124 v c⟩ (fc ⟨by kernel_rfl, g (by kernel_rfl) (fun R k => by kernel_rfl), D125 v c⟩ fz)))
theorem D117 (v : VO sr6) (c : Cr6 v) : Dag env opsr6 (S132 v) (mk 77567) (S117 v) := .fork [(8, (mk 77823), S123 v)] (by kernel_rfl) (by simp) (fc ⟨by kernel_rfl, g (by kernel_rfl) (fun R k => Eq.trans (b := (if COr6_1 v then k (S123 v) else none)) (by kernel_rfl) (by rw [if_pos (c.2.1)])), D123 v c⟩ fz)
theorem D116 (v : VO sr6) (c : Cr6 v) : Dag env opsr6 (S132 v) (mk 75775) (S116 v) := .fork [(11, (mk 77823), S123 v)] (by kernel_rfl) (by simp) (fc ⟨by kernel_rfl, g (by kernel_rfl) (fun R k => by kernel_rfl), D123 v c⟩ fz)
theorem D115 (v : VO sr6) (c : Cr6 v) : Dag env opsr6 (S132 v) (mk 69631) (S115 v) := .fork [(12, (mk 73727), S122 v), (13, (mk 77823), S123 v)] (by kernel_rfl) (by simp) (fc ⟨by kernel_rfl, g (by kernel_rfl) (fun R k => Eq.trans (b := (if COr6_2 v then k (S122 v) else none)) (by kernel_rfl) (by rw [if_pos (c.2.2.1)])), D122 v c⟩ (fc ⟨by kernel_rfl, g (by kernel_rfl) (fun R k => by kernel_rfl), D123 v c⟩ fz))
theorem D114 (v : VO sr6) (c : Cr6 v) : Dag env opsr6 (S132 v) (mk 12287) (S114 v) := .fork [(12, (mk 16383), S121 v), (16, (mk 77823), S123 v)] (by kernel_rfl) (by simp) (fc ⟨by kernel_rfl, g (by kernel_rfl) (fun R k => Eq.trans (b := (if COr6_2 v then k (S121 v) else none)) (by kernel_rfl) (by rw [if_pos (c.2.2.1)])), D121 v c⟩ (fc ⟨by kernel_rfl, g (by kernel_rfl) (fun R k => by kernel_rfl), D123 v c⟩ fz))
theorem D113 (v : VO sr6) (c : Cr6 v) : Dag env opsr6 (S132 v) (mk 8191) (S113 v) := .fork [(13, (mk 16383), S121 v), (16, (mk 73727), S122 v)] (by kernel_rfl) (by simp) (fc ⟨by kernel_rfl, g (by kernel_rfl) (fun R k => by kernel_rfl), D121 v c⟩ (fc ⟨by kernel_rfl, g (by kernel_rfl) (fun R k => by kernel_rfl), D122 v c⟩ fz))
theorem D112 (v : VO sr6) (c : Cr6 v) : Dag env opsr6 (S132 v) (mk 77563) (S112 v) := .fork [(2, (mk 77567), S117 v), (8, (mk 77819), S120 v)] (by kernel_rfl) (by simp) (fc ⟨by kernel_rfl, g (by kernel_rfl) (fun R k => by kernel_rfl), D117 v c⟩ (fc ⟨by kernel_rfl, g (by kernel_rfl) (fun R k => Eq.trans (b := (if COr6_1 v then k (S120 v) else none)) (by kernel_rfl) (by rw [if_pos (c.2.1)])), D120 v c⟩ fz))
theorem D111 (v : VO sr6) (c : Cr6 v) : Dag env opsr6 (S132 v) (mk 75771) (S111 v) := .fork [(2, (mk 75775), S116 v), (11, (mk 77819), S120 v)] (by kernel_rfl) (by simp) (fc ⟨by kernel_rfl, g (by kernel_rfl) (fun R k => by kernel_rfl), D116 v c⟩ (fc ⟨by kernel_rfl, g (by kernel_rfl) (fun R k => by kernel_rfl), D120 v c⟩ fz))
theorem D110 (v : VO sr6) (c : Cr6 v) : Dag env opsr6 (S132 v) (mk 69627) (S110 v) := .fork [(2, (mk 69631), S115 v), (12, (mk 73723), S119 v), (13, (mk 77819), S120 v)] (by kernel_rfl) (by simp) (fc ⟨by kernel_rfl, g (by kernel_rfl) (fun R k => by kernel_rfl), D115 v c⟩ (fc ⟨by kernel_rfl, g (by kernel_rfl) (fun R k => Eq.trans (b := (if COr6_2 v then k (S119 v) else none)) (by kernel_rfl) (by rw [if_pos (c.2.2.1)])), D119 v c⟩ (fc ⟨by kernel_rfl, g (by kernel_rfl) (fun R k => by kernel_rfl), D120 v c⟩ fz)))
theorem D109 (v : VO sr6) (c : Cr6 v) : Dag env opsr6 (S132 v) (mk 12283) (S109 v) := .fork [(2, (mk 12287), S114 v), (12, (mk 16379), S118 v), (16, (mk 77819), S120 v)] (by kernel_rfl) (by simp) (fc ⟨by kernel_rfl, g (by kernel_rfl) (fun R k => by kernel_rfl), D114 v c⟩ (fc ⟨by kernel_rfl, g (by kernel_rfl) (fun R k => Eq.trans (b := (if COr6_2 v then k (S118 v) else none)) (by kernel_rfl) (by rw [if_pos (c.2.2.1)])), D118 v c⟩ (fc ⟨by kernel_rfl, g (by kernel_rfl) (fun R k => by kernel_rfl), D120 v c⟩ fz)))
theorem D108 (v : VO sr6) (c : Cr6 v) : Dag env opsr6 (S132 v) (mk 8187) (S108 v) := .fork [(2, (mk 8191), S113 v), (13, (mk 16379), S118 v), (16, (mk 73723), S119 v)] (by kernel_rfl) (by simp) (fc ⟨by kernel_rfl, g (by kernel_rfl) (fun R k => by kernel_rfl), D113 v c⟩ (fc ⟨by kernel_rfl, g (by kernel_rfl) (fun R k => by kernel_rfl), D118 v c⟩ (fc ⟨by kernel_rfl, g (by kernel_rfl) (fun R k => by kernel_rfl), D119 v c⟩ fz)))
theorem D107 (v : VO sr6) (c : Cr6 v) : Dag env opsr6 (S132 v) (mk 77503) (S107 v) := .fork [(6, (mk 77567), S117 v)] (by kernel_rfl) (by simp) (fc ⟨by kernel_rfl, g (by kernel_rfl) (fun R k => Eq.trans (b := (if COr6_0 v then k (S117 v) else none)) (by kernel_rfl) (by rw [if_pos (c.1)])), D117 v c⟩ fz)
theorem D106 (v : VO sr6) (c : Cr6 v) : Dag env opsr6 (S132 v) (mk 77439) (S106 v) := .fork [(7, (mk 77567), S117 v)] (by kernel_rfl) (by simp) (fc ⟨by kernel_rfl, g (by kernel_rfl) (fun R k => by kernel_rfl), D117 v c⟩ fz)
theorem D105 (v : VO sr6) (c : Cr6 v) : Dag env opsr6 (S132 v) (mk 75519) (S105 v) := .fork [(8, (mk 75775), S116 v), (11, (mk 77567), S117 v)] (by kernel_rfl) (by simp) (fc ⟨by kernel_rfl, g (by kernel_rfl) (fun R k => Eq.trans (b := (if COr6_1 v then k (S116 v) else none)) (by kernel_rfl) (by rw [if_pos (c.2.1)])), D116 v c⟩ (fc ⟨by kernel_rfl, g (by kernel_rfl) (fun R k => by kernel_rfl), D117 v c⟩ fz))
theorem D104 (v : VO sr6) (c : Cr6 v) : Dag env opsr6 (S132 v) (mk 69375) (S104 v) := .fork [(8, (mk 69631), S115 v), (13, (mk 77567), S117 v)] (by kernel_rfl) (by simp) (fc ⟨by kernel_rfl, g (by kernel_rfl) (fun R k => Eq.trans (b := (if COr6_1 v then k (S115 v) else none)) (by kernel_rfl) (by rw [if_pos (c.2.1)])), D115 v c⟩ (fc ⟨by kernel_rfl, g (by kernel_rfl) (fun R k => by kernel_rfl), D117 v c⟩ fz))
theorem D103 (v : VO sr6) (c : Cr6 v) : Dag env opsr6 (S132 v) (mk 12031) (S103 v) := .fork [(8, (mk 12287), S114 v), (16, (mk 77567), S117 v)] (by kernel_rfl) (by simp) (fc ⟨by kernel_rfl, g (by kernel_rfl) (fun R k => Eq.trans (b := (if COr6_1 v then k (S114 v) else none)) (by kernel_rfl) (by rw [if_pos (c.2.1)])), D114 v c⟩ (fc ⟨by kernel_rfl, g (by kernel_rfl) (fun R k => by kernel_rfl), D117 v c⟩ fz))
theorem D102 (v : VO sr6) (c : Cr6 v) : Dag env opsr6 (S132 v) (mk 67583) (S102 v) := .fork [(11, (mk 69631), S115 v), (13, (mk 75775), S116 v)] (by kernel_rfl) (by simp) (fc ⟨by kernel_rfl, g (by kernel_rfl) (fun R k => by kernel_rfl), D115 v c⟩ (fc ⟨by kernel_rfl, g (by kernel_rfl) (fun R k => by kernel_rfl), D116 v c⟩ fz))
theorem D101 (v : VO sr6) (c : Cr6 v) : Dag env opsr6 (S132 v) (mk 10239) (S101 v) := .fork [(11, (mk 12287), S114 v), (16, (mk 75775), S116 v)] (by kernel_rfl) (by simp) (fc ⟨by kernel_rfl, g (by kernel_rfl) (fun R k => by kernel_rfl), D114 v c⟩ (fc ⟨by kernel_rfl, g (by kernel_rfl) (fun R k => by kernel_rfl), D116 v c⟩ fz))
theorem D100 (v : VO sr6) (c : Cr6 v) : Dag env opsr6 (S132 v) (mk 4095) (S100 v) := .fork [(12, (mk 8191), S113 v), (13, (mk 12287), S114 v), (16, (mk 69631), S115 v)] (by kernel_rfl) (by simp) (fc ⟨by kernel_rfl, g (by kernel_rfl) (fun R k => Eq.trans (b := (if COr6_2 v then k (S113 v) else none)) (by kernel_rfl) (by rw [if_pos (c.2.2.1)])), D113 v c⟩ (fc ⟨by kernel_rfl, g (by kernel_rfl) (fun R k => by kernel_rfl), D114 v c⟩ (fc ⟨by kernel_rfl, g (by kernel_rfl) (fun R k => by kernel_rfl), D115 v c⟩ fz)))
theorem D99 (v : VO sr6) (c : Cr6 v) : Dag env opsr6 (S132 v) (mk 77499) (S99 v) := .fork [(2, (mk 77503), S107 v), (6, (mk 77563), S112 v)] (by kernel_rfl) (by simp) (fc ⟨by kernel_rfl, g (by kernel_rfl) (fun R k => by kernel_rfl), D107 v c⟩ (fc ⟨by kernel_rfl, g (by kernel_rfl) (fun R k => Eq.trans (b := (if COr6_0 v then k (S112 v) else none)) (by kernel_rfl) (by rw [if_pos (c.1)])), D112 v c⟩ fz))
theorem D98 (v : VO sr6) (c : Cr6 v) : Dag env opsr6 (S132 v) (mk 77435) (S98 v) := .fork [(2, (mk 77439), S106 v), (7, (mk 77563), S112 v)] (by kernel_rfl) (by simp) (fc ⟨by kernel_rfl, g (by kernel_rfl) (fun R k => by kernel_rfl), D106 v c⟩ (fc ⟨by kernel_rfl, g (by kernel_rfl) (fun R k => by kernel_rfl), D112 v c⟩ fz))
theorem D97 (v : VO sr6) (c : Cr6 v) : Dag env opsr6 (S132 v) (mk 75515) (S97 v) := .fork [(2, (mk 75519), S105 v), (8, (mk 75771), S111 v), (11, (mk 77563), S112 v)] (by kernel_rfl) (by simp) (fc ⟨by kernel_rfl, g (by kernel_rfl) (fun R k => by kernel_rfl), D105 v c⟩ (fc ⟨by kernel_rfl, g (by kernel_rfl) (fun R k => Eq.trans (b := (if COr6_1 v then k (S111 v) else none)) (by kernel_rfl) (by rw [if_pos (c.2.1)])), D111 v c⟩ (fc ⟨by kernel_rfl, g (by kernel_rfl) (fun R k => by kernel_rfl), D112 v c⟩ fz)))
theorem D96 (v : VO sr6) (c : Cr6 v) : Dag env opsr6 (S132 v) (mk 69371) (S96 v) := .fork [(2, (mk 69375), S104 v), (8, (mk 69627), S110 v), (13, (mk 77563), S112 v)] (by kernel_rfl) (by simp) (fc ⟨by kernel_rfl, g (by kernel_rfl) (fun R k => by kernel_rfl), D104 v c⟩ (fc ⟨by kernel_rfl, g (by kernel_rfl) (fun R k => Eq.trans (b := (if COr6_1 v then k (S110 v) else none)) (by kernel_rfl) (by rw [if_pos (c.2.1)])), D110 v c⟩ (fc ⟨by kernel_rfl, g (by kernel_rfl) (fun R k => by kernel_rfl), D112 v c⟩ fz)))
theorem D95 (v : VO sr6) (c : Cr6 v) : Dag env opsr6 (S132 v) (mk 12027) (S95 v) := .fork [(2, (mk 12031), S103 v), (8, (mk 12283), S109 v), (16, (mk 77563), S112 v)] (by kernel_rfl) (by simp) (fc ⟨by kernel_rfl, g (by kernel_rfl) (fun R k => by kernel_rfl), D103 v c⟩ (fc ⟨by kernel_rfl, g (by kernel_rfl) (fun R k => Eq.trans (b := (if COr6_1 v then k (S109 v) else none)) (by kernel_rfl) (by rw [if_pos (c.2.1)])), D109 v c⟩ (fc ⟨by kernel_rfl, g (by kernel_rfl) (fun R k => by kernel_rfl), D112 v c⟩ fz)))
theorem D94 (v : VO sr6) (c : Cr6 v) : Dag env opsr6 (S132 v) (mk 67579) (S94 v) := .fork [(2, (mk 67583), S102 v), (11, (mk 69627), S110 v), (13, (mk 75771), S111 v)] (by kernel_rfl) (by simp) (fc ⟨by kernel_rfl, g (by kernel_rfl) (fun R k => by kernel_rfl), D102 v c⟩ (fc ⟨by kernel_rfl, g (by kernel_rfl) (fun R k => by kernel_rfl), D110 v c⟩ (fc ⟨by kernel_rfl, g (by kernel_rfl) (fun R k => by kernel_rfl), D111 v c⟩ fz)))
theorem D93 (v : VO sr6) (c : Cr6 v) : Dag env opsr6 (S132 v) (mk 10235) (S93 v) := .fork [(2, (mk 10239), S101 v), (11, (mk 12283), S109 v), (16, (mk 75771), S111 v)] (by kernel_rfl) (by simp) (fc ⟨by kernel_rfl, g (by kernel_rfl) (fun R k => by kernel_rfl), D101 v c⟩ (fc ⟨by kernel_rfl, g (by kernel_rfl) (fun R k => by kernel_rfl), D109 v c⟩ (fc ⟨by kernel_rfl, g (by kernel_rfl) (fun R k => by kernel_rfl), D111 v c⟩ fz)))
theorem D92 (v : VO sr6) (c : Cr6 v) : Dag env opsr6 (S132 v) (mk 4091) (S92 v) := .fork [(2, (mk 4095), S100 v), (12, (mk 8187), S108 v), (13, (mk 12283), S109 v), (16, (mk 69627), S110 v)] (by kernel_rfl) (by simp) (fc ⟨by kernel_rfl, g (by kernel_rfl) (fun R k => by kernel_rfl), D100 v c⟩ (fc ⟨by kernel_rfl, g (by kernel_rfl) (fun R k => Eq.trans (b := (if COr6_2 v then k (S108 v) else none)) (by kernel_rfl) (by rw [if_pos (c.2.2.1)])), D108 v c⟩ (fc ⟨by kernel_rfl, g (by kernel_rfl) (fun R k => by kernel_rfl), D109 v c⟩ (fc ⟨by kernel_rfl, g (by kernel_rfl) (fun R k => by kernel_rfl), D110 v c⟩ fz))))
theorem D91 (v : VO sr6) (c : Cr6 v) : Dag env opsr6 (S132 v) (mk 77471) (S91 v) := .fork [(5, (mk 77503), S107 v)] (by kernel_rfl) (by simp) (fc ⟨by kernel_rfl, g (by kernel_rfl) (fun R k => by kernel_rfl), D107 v c⟩ fz)
theorem D90 (v : VO sr6) (c : Cr6 v) : Dag env opsr6 (S132 v) (mk 77375) (S90 v) := .fork [(6, (mk 77439), S106 v), (7, (mk 77503), S107 v)] (by kernel_rfl) (by simp) (fc ⟨by kernel_rfl, g (by kernel_rfl) (fun R k => Eq.trans (b := (if COr6_0 v then k (S106 v) else none)) (by kernel_rfl) (by rw [if_pos (c.1)])), D106 v c⟩ (fc ⟨by kernel_rfl, g (by kernel_rfl) (fun R k => by kernel_rfl), D107 v c⟩ fz))
theorem D89 (v : VO sr6) (c : Cr6 v) : Dag env opsr6 (S132 v) (mk 75455) (S89 v) := .fork [(6, (mk 75519), S105 v), (11, (mk 77503), S107 v)] (by kernel_rfl) (by simp) (fc ⟨by kernel_rfl, g (by kernel_rfl) (fun R k => Eq.trans (b := (if COr6_0 v then k (S105 v) else none)) (by kernel_rfl) (by rw [if_pos (c.1)])), D105 v c⟩ (fc ⟨by kernel_rfl, g (by kernel_rfl) (fun R k => by kernel_rfl), D107 v c⟩ fz))
theorem D88 (v : VO sr6) (c : Cr6 v) : Dag env opsr6 (S132 v) (mk 69311) (S88 v) := .fork [(6, (mk 69375), S104 v), (13, (mk 77503), S107 v)] (by kernel_rfl) (by simp) (fc ⟨by kernel_rfl, g (by kernel_rfl) (fun R k => Eq.trans (b := (if COr6_0 v then k (S104 v) else none)) (by kernel_rfl) (by rw [if_pos (c.1)])), D104 v c⟩ (fc ⟨by kernel_rfl, g (by kernel_rfl) (fun R k => by kernel_rfl), D107 v c⟩ fz))
theorem D87 (v : VO sr6) (c : Cr6 v) : Dag env opsr6 (S132 v) (mk 11967) (S87 v) := .fork [(6, (mk 12031), S103 v), (16, (mk 77503), S107 v)] (by kernel_rfl) (by simp) (fc ⟨by kernel_rfl, g (by kernel_rfl) (fun R k => Eq.trans (b := (if COr6_0 v then k (S103 v) else none)) (by kernel_rfl) (by rw [if_pos (c.1)])), D103 v c⟩ (fc ⟨by kernel_rfl, g (by kernel_rfl) (fun R k => by kernel_rfl), D107 v c⟩ fz))
theorem D86 (v : VO sr6) (c : Cr6 v) : Dag env opsr6 (S132 v) (mk 75391) (S86 v) := .fork [(7, (mk 75519), S105 v), (11, (mk 77439), S106 v)] (by kernel_rfl) (by simp) (fc ⟨by kernel_rfl, g (by kernel_rfl) (fun R k => by kernel_rfl), D105 v c⟩ (fc ⟨by kernel_rfl, g (by kernel_rfl) (fun R k => by kernel_rfl), D106 v c⟩ fz))
theorem D85 (v : VO sr6) (c : Cr6 v) : Dag env opsr6 (S132 v) (mk 69247) (S85 v) := .fork [(7, (mk 69375), S104 v), (13, (mk 77439), S106 v)] (by kernel_rfl) (by simp) (fc ⟨by kernel_rfl, g (by kernel_rfl) (fun R k => by kernel_rfl), D104 v c⟩ (fc ⟨by kernel_rfl, g (by kernel_rfl) (fun R k => by kernel_rfl), D106 v c⟩ fz))
theorem D84 (v : VO sr6) (c : Cr6 v) : Dag env opsr6 (S132 v) (mk 11903) (S84 v) := .fork [(7, (mk 12031), S103 v), (16, (mk 77439), S106 v)] (by kernel_rfl) (by simp) (fc ⟨by kernel_rfl, g (by kernel_rfl) (fun R k => by kernel_rfl), D103 v c⟩ (fc ⟨by kernel_rfl, g (by kernel_rfl) (fun R k => by kernel_rfl), D106 v c⟩ fz))
theorem D83 (v : VO sr6) (c : Cr6 v) : Dag env opsr6 (S132 v) (mk 67327) (S83 v) := .fork [(8, (mk 67583), S102 v), (11, (mk 69375), S104 v), (13, (mk 75519), S105 v)] (by kernel_rfl) (by simp) (fc ⟨by kernel_rfl, g (by kernel_rfl) (fun R k => Eq.trans (b := (if COr6_1 v then k (S102 v) else none)) (by kernel_rfl) (by rw [if_pos (c.2.1)])), D102 v c⟩ (fc ⟨by kernel_rfl, g (by kernel_rfl) (fun R k => by kernel_rfl), D104 v c⟩ (fc ⟨by kernel_rfl, g (by kernel_rfl) (fun R k => by kernel_rfl), D105 v c⟩ fz)))
theorem D82 (v : VO sr6) (c : Cr6 v) : Dag env opsr6 (S132 v) (mk 9983) (S82 v) := .fork [(8, (mk 10239), S101 v), (11, (mk 12031), S103 v), (16, (mk 75519), S105 v)] (by kernel_rfl) (by simp) (fc ⟨by kernel_rfl, g (by kernel_rfl) (fun R k => Eq.trans (b := (if COr6_1 v then k (S101 v) else none)) (by kernel_rfl) (by rw [if_pos (c.2.1)])), D101 v c⟩ (fc ⟨by kernel_rfl, g (by kernel_rfl) (fun R k => by kernel_rfl), D103 v c⟩ (fc ⟨by kernel_rfl, g (by kernel_rfl) (fun R k => by kernel_rfl), D105 v c⟩ fz)))
theorem D81 (v : VO sr6) (c : Cr6 v) : Dag env opsr6 (S132 v) (mk 3839) (S81 v) := .fork [(8, (mk 4095), S100 v), (13, (mk 12031), S103 v), (16, (mk 69375), S104 v)] (by kernel_rfl) (by simp) (fc ⟨by kernel_rfl, g (by kernel_rfl) (fun R k => Eq.trans (b := (if COr6_1 v then k (S100 v) else none)) (by kernel_rfl) (by rw [if_pos (c.2.1)])), D100 v c⟩ (fc ⟨by kernel_rfl, g (by kernel_rfl) (fun R k => by kernel_rfl), D103 v c⟩ (fc ⟨by kernel_rfl, g (by kernel_rfl) (fun R k => by kernel_rfl), D104 v c⟩ fz)))
theorem D80 (v : VO sr6) (c : Cr6 v) : Dag env opsr6 (S132 v) (mk 2047) (S80 v) := .fork [(11, (mk 4095), S100 v), (13, (mk 10239), S101 v), (16, (mk 67583), S102 v)] (by kernel_rfl) (by simp) (fc ⟨by kernel_rfl, g (by kernel_rfl) (fun R k => by kernel_rfl), D100 v c⟩ (fc ⟨by kernel_rfl, g (by kernel_rfl) (fun R k => by kernel_rfl), D101 v c⟩ (fc ⟨by kernel_rfl, g (by kernel_rfl) (fun R k => by kernel_rfl), D102 v c⟩ fz)))
theorem D79 (v : VO sr6) (c : Cr6 v) : Dag env opsr6 (S132 v) (mk 77467) (S79 v) := .fork [(2, (mk 77471), S91 v), (5, (mk 77499), S99 v)] (by kernel_rfl) (by simp) (fc ⟨by kernel_rfl, g (by kernel_rfl) (fun R k => by kernel_rfl), D91 v c⟩ (fc ⟨by kernel_rfl, g (by kernel_rfl) (fun R k => by kernel_rfl), D99 v c⟩ fz))
theorem D78 (v : VO sr6) (c : Cr6 v) : Dag env opsr6 (S132 v) (mk 77371) (S78 v) := .fork [(2, (mk 77375), S90 v), (6, (mk 77435), S98 v), (7, (mk 77499), S99 v)] (by kernel_rfl) (by simp) (fc ⟨by kernel_rfl, g (by kernel_rfl) (fun R k => by kernel_rfl), D90 v c⟩ (fc ⟨by kernel_rfl, g (by kernel_rfl) (fun R k => Eq.trans (b := (if COr6_0 v then k (S98 v) else none)) (by kernel_rfl) (by rw [if_pos (c.1)])), D98 v c⟩ (fc ⟨by kernel_rfl, g (by kernel_rfl) (fun R k => by kernel_rfl), D99 v c⟩ fz)))
theorem D77 (v : VO sr6) (c : Cr6 v) : Dag env opsr6 (S132 v) (mk 75451) (S77 v) := .fork [(2, (mk 75455), S89 v), (6, (mk 75515), S97 v), (11, (mk 77499), S99 v)] (by kernel_rfl) (by simp) (fc ⟨by kernel_rfl, g (by kernel_rfl) (fun R k => by kernel_rfl), D89 v c⟩ (fc ⟨by kernel_rfl, g (by kernel_rfl) (fun R k => Eq.trans (b := (if COr6_0 v then k (S97 v) else none)) (by kernel_rfl) (by rw [if_pos (c.1)])), D97 v c⟩ (fc ⟨by kernel_rfl, g (by kernel_rfl) (fun R k => by kernel_rfl), D99 v c⟩ fz)))
theorem D76 (v : VO sr6) (c : Cr6 v) : Dag env opsr6 (S132 v) (mk 69307) (S76 v) := .fork [(2, (mk 69311), S88 v), (6, (mk 69371), S96 v), (13, (mk 77499), S99 v)] (by kernel_rfl) (by simp) (fc ⟨by kernel_rfl, g (by kernel_rfl) (fun R k => by kernel_rfl), D88 v c⟩ (fc ⟨by kernel_rfl, g (by kernel_rfl) (fun R k => Eq.trans (b := (if COr6_0 v then k (S96 v) else none)) (by kernel_rfl) (by rw [if_pos (c.1)])), D96 v c⟩ (fc ⟨by kernel_rfl, g (by kernel_rfl) (fun R k => by kernel_rfl), D99 v c⟩ fz)))
theorem D75 (v : VO sr6) (c : Cr6 v) : Dag env opsr6 (S132 v) (mk 11963) (S75 v) := .fork [(2, (mk 11967), S87 v), (6, (mk 12027), S95 v), (16, (mk 77499), S99 v)] (by kernel_rfl) (by simp) (fc ⟨by kernel_rfl, g (by kernel_rfl) (fun R k => by kernel_rfl), D87 v c⟩ (fc ⟨by kernel_rfl, g (by kernel_rfl) (fun R k => Eq.trans (b := (if COr6_0 v then k (S95 v) else none)) (by kernel_rfl) (by rw [if_pos (c.1)])), D95 v c⟩ (fc ⟨by kernel_rfl, g (by kernel_rfl) (fun R k => by kernel_rfl), D99 v c⟩ fz)))
theorem D74 (v : VO sr6) (c : Cr6 v) : Dag env opsr6 (S132 v) (mk 75387) (S74 v) := .fork [(2, (mk 75391), S86 v), (7, (mk 75515), S97 v), (11, (mk 77435), S98 v)] (by kernel_rfl) (by simp) (fc ⟨by kernel_rfl, g (by kernel_rfl) (fun R k => by kernel_rfl), D86 v c⟩ (fc ⟨by kernel_rfl, g (by kernel_rfl) (fun R k => by kernel_rfl), D97 v c⟩ (fc ⟨by kernel_rfl, g (by kernel_rfl) (fun R k => by kernel_rfl), D98 v c⟩ fz)))
theorem D73 (v : VO sr6) (c : Cr6 v) : Dag env opsr6 (S132 v) (mk 69243) (S73 v) := .fork [(2, (mk 69247), S85 v), (7, (mk 69371), S96 v), (13, (mk 77435), S98 v)] (by kernel_rfl) (by simp) (fc ⟨by kernel_rfl, g (by kernel_rfl) (fun R k => by kernel_rfl), D85 v c⟩ (fc ⟨by kernel_rfl, g (by kernel_rfl) (fun R k => by kernel_rfl), D96 v c⟩ (fc ⟨by kernel_rfl, g (by kernel_rfl) (fun R k => by kernel_rfl), D98 v c⟩ fz)))
theorem D72 (v : VO sr6) (c : Cr6 v) : Dag env opsr6 (S132 v) (mk 11899) (S72 v) := .fork [(2, (mk 11903), S84 v), (7, (mk 12027), S95 v), (16, (mk 77435), S98 v)] (by kernel_rfl) (by simp) (fc ⟨by kernel_rfl, g (by kernel_rfl) (fun R k => by kernel_rfl), D84 v c⟩ (fc ⟨by kernel_rfl, g (by kernel_rfl) (fun R k => by kernel_rfl), D95 v c⟩ (fc ⟨by kernel_rfl, g (by kernel_rfl) (fun R k => by kernel_rfl), D98 v c⟩ fz)))
theorem D71 (v : VO sr6) (c : Cr6 v) : Dag env opsr6 (S132 v) (mk 67323) (S71 v) := .fork [(2, (mk 67327), S83 v), (8, (mk 67579), S94 v), (11, (mk 69371), S96 v), (13, (mk 75515), S97 v)] (by kernel_rfl) (by simp) (fc ⟨by kernel_rfl, g (by kernel_rfl) (fun R k => by kernel_rfl), D83 v c⟩ (fc ⟨by kernel_rfl, g (by kernel_rfl) (fun R k => Eq.trans (b := (if COr6_1 v then k (S94 v) else none)) (by kernel_rfl) (by rw [if_pos (c.2.1)])), D94 v c⟩ (fc ⟨by kernel_rfl, g (by kernel_rfl) (fun R k => by kernel_rfl), D96 v c⟩ (fc ⟨by kernel_rfl, g (by kernel_rfl) (fun R k => by kernel_rfl), D97 v c⟩ fz))))
theorem D70 (v : VO sr6) (c : Cr6 v) : Dag env opsr6 (S132 v) (mk 9979) (S70 v) := .fork [(2, (mk 9983), S82 v), (8, (mk 10235), S93 v), (11, (mk 12027), S95 v), (16, (mk 75515), S97 v)] (by kernel_rfl) (by simp) (fc ⟨by kernel_rfl, g (by kernel_rfl) (fun R k => by kernel_rfl), D82 v c⟩ (fc ⟨by kernel_rfl, g (by kernel_rfl) (fun R k => Eq.trans (b := (if COr6_1 v then k (S93 v) else none)) (by kernel_rfl) (by rw [if_pos (c.2.1)])), D93 v c⟩ (fc ⟨by kernel_rfl, g (by kernel_rfl) (fun R k => by kernel_rfl), D95 v c⟩ (fc ⟨by kernel_rfl, g (by kernel_rfl) (fun R k => by kernel_rfl), D97 v c⟩ fz))))
theorem D69 (v : VO sr6) (c : Cr6 v) : Dag env opsr6 (S132 v) (mk 3835) (S69 v) := .fork [(2, (mk 3839), S81 v), (8, (mk 4091), S92 v), (13, (mk 12027), S95 v), (16, (mk 69371), S96 v)] (by kernel_rfl) (by simp) (fc ⟨by kernel_rfl, g (by kernel_rfl) (fun R k => by kernel_rfl), D81 v c⟩ (fc ⟨by kernel_rfl, g (by kernel_rfl) (fun R k => Eq.trans (b := (if COr6_1 v then k (S92 v) else none)) (by kernel_rfl) (by rw [if_pos (c.2.1)])), D92 v c⟩ (fc ⟨by kernel_rfl, g (by kernel_rfl) (fun R k => by kernel_rfl), D95 v c⟩ (fc ⟨by kernel_rfl, g (by kernel_rfl) (fun R k => by kernel_rfl), D96 v c⟩ fz))))
theorem D68 (v : VO sr6) (c : Cr6 v) : Dag env opsr6 (S132 v) (mk 2043) (S68 v) := .fork [(2, (mk 2047), S80 v), (11, (mk 4091), S92 v), (13, (mk 10235), S93 v), (16, (mk 67579), S94 v)] (by kernel_rfl) (by simp) (fc ⟨by kernel_rfl, g (by kernel_rfl) (fun R k => by kernel_rfl), D80 v c⟩ (fc ⟨by kernel_rfl, g (by kernel_rfl) (fun R k => by kernel_rfl), D92 v c⟩ (fc ⟨by kernel_rfl, g (by kernel_rfl) (fun R k => by kernel_rfl), D93 v c⟩ (fc ⟨by kernel_rfl, g (by kernel_rfl) (fun R k => by kernel_rfl), D94 v c⟩ fz))))
theorem D67 (v : VO sr6) (c : Cr6 v) : Dag env opsr6 (S132 v) (mk 77343) (S67 v) := .fork [(5, (mk 77375), S90 v), (7, (mk 77471), S91 v)] (by kernel_rfl) (by simp) (fc ⟨by kernel_rfl, g (by kernel_rfl) (fun R k => by kernel_rfl), D90 v c⟩ (fc ⟨by kernel_rfl, g (by kernel_rfl) (fun R k => by kernel_rfl), D91 v c⟩ fz))
theorem D66 (v : VO sr6) (c : Cr6 v) : Dag env opsr6 (S132 v) (mk 75423) (S66 v) := .fork [(5, (mk 75455), S89 v), (11, (mk 77471), S91 v)] (by kernel_rfl) (by simp) (fc ⟨by kernel_rfl, g (by kernel_rfl) (fun R k => by kernel_rfl), D89 v c⟩ (fc ⟨by kernel_rfl, g (by kernel_rfl) (fun R k => by kernel_rfl), D91 v c⟩ fz))
theorem D65 (v : VO sr6) (c : Cr6 v) : Dag env opsr6 (S132 v) (mk 69279) (S65 v) := .fork [(5, (mk 69311), S88 v), (13, (mk 77471), S91 v)] (by kernel_rfl) (by simp) (fc ⟨by kernel_rfl, g (by kernel_rfl) (fun R k => by kernel_rfl), D88 v c⟩ (fc ⟨by kernel_rfl, g (by kernel_rfl) (fun R k => by kernel_rfl), D91 v c⟩ fz))
theorem D64 (v : VO sr6) (c : Cr6 v) : Dag env opsr6 (S132 v) (mk 11935) (S64 v) := .fork [(5, (mk 11967), S87 v), (16, (mk 77471), S91 v)] (by kernel_rfl) (by simp) (fc ⟨by kernel_rfl, g (by kernel_rfl) (fun R k => by kernel_rfl), D87 v c⟩ (fc ⟨by kernel_rfl, g (by kernel_rfl) (fun R k => by kernel_rfl), D91 v c⟩ fz))
theorem D63 (v : VO sr6) (c : Cr6 v) : Dag env opsr6 (S132 v) (mk 75327) (S63 v) := .fork [(6, (mk 75391), S86 v), (7, (mk 75455), S89 v), (11, (mk 77375), S90 v)] (by kernel_rfl) (by simp) (fc ⟨by kernel_rfl, g (by kernel_rfl) (fun R k => Eq.trans (b := (if COr6_0 v then k (S86 v) else none)) (by kernel_rfl) (by rw [if_pos (c.1)])), D86 v c⟩ (fc ⟨by kernel_rfl, g (by kernel_rfl) (fun R k => by kernel_rfl), D89 v c⟩ (fc ⟨by kernel_rfl, g (by kernel_rfl) (fun R k => by kernel_rfl), D90 v c⟩ fz)))
theorem D62 (v : VO sr6) (c : Cr6 v) : Dag env opsr6 (S132 v) (mk 69183) (S62 v) := .fork [(6, (mk 69247), S85 v), (7, (mk 69311), S88 v), (13, (mk 77375), S90 v)] (by kernel_rfl) (by simp) (fc ⟨by kernel_rfl, g (by kernel_rfl) (fun R k => Eq.trans (b := (if COr6_0 v then k (S85 v) else none)) (by kernel_rfl) (by rw [if_pos (c.1)])), D85 v c⟩ (fc ⟨by kernel_rfl, g (by kernel_rfl) (fun R k => by kernel_rfl), D88 v c⟩ (fc ⟨by kernel_rfl, g (by kernel_rfl) (fun R k => by kernel_rfl), D90 v c⟩ fz)))
theorem D61 (v : VO sr6) (c : Cr6 v) : Dag env opsr6 (S132 v) (mk 11839) (S61 v) := .fork [(6, (mk 11903), S84 v), (7, (mk 11967), S87 v), (16, (mk 77375), S90 v)] (by kernel_rfl) (by simp) (fc ⟨by kernel_rfl, g (by kernel_rfl) (fun R k => Eq.trans (b := (if COr6_0 v then k (S84 v) else none)) (by kernel_rfl) (by rw [if_pos (c.1)])), D84 v c⟩ (fc ⟨by kernel_rfl, g (by kernel_rfl) (fun R k => by kernel_rfl), D87 v c⟩ (fc ⟨by kernel_rfl, g (by kernel_rfl) (fun R k => by kernel_rfl), D90 v c⟩ fz)))
theorem D60 (v : VO sr6) (c : Cr6 v) : Dag env opsr6 (S132 v) (mk 67263) (S60 v) := .fork [(6, (mk 67327), S83 v), (11, (mk 69311), S88 v), (13, (mk 75455), S89 v)] (by kernel_rfl) (by simp) (fc ⟨by kernel_rfl, g (by kernel_rfl) (fun R k => Eq.trans (b := (if COr6_0 v then k (S83 v) else none)) (by kernel_rfl) (by rw [if_pos (c.1)])), D83 v c⟩ (fc ⟨by kernel_rfl, g (by kernel_rfl) (fun R k => by kernel_rfl), D88 v c⟩ (fc ⟨by kernel_rfl, g (by kernel_rfl) (fun R k => by kernel_rfl), D89 v c⟩ fz)))
theorem D59 (v : VO sr6) (c : Cr6 v) : Dag env opsr6 (S132 v) (mk 9919) (S59 v) := .fork [(6, (mk 9983), S82 v), (11, (mk 11967), S87 v), (16, (mk 75455), S89 v)] (by kernel_rfl) (by simp) (fc ⟨by kernel_rfl, g (by kernel_rfl) (fun R k => Eq.trans (b := (if COr6_0 v then k (S82 v) else none)) (by kernel_rfl) (by rw [if_pos (c.1)])), D82 v c⟩ (fc ⟨by kernel_rfl, g (by kernel_rfl) (fun R k => by kernel_rfl), D87 v c⟩ (fc ⟨by kernel_rfl, g (by kernel_rfl) (fun R k => by kernel_rfl), D89 v c⟩ fz)))
theorem D58 (v : VO sr6) (c : Cr6 v) : Dag env opsr6 (S132 v) (mk 3775) (S58 v) := .fork [(6, (mk 3839), S81 v), (13, (mk 11967), S87 v), (16, (mk 69311), S88 v)] (by kernel_rfl) (by simp) (fc ⟨by kernel_rfl, g (by kernel_rfl) (fun R k => Eq.trans (b := (if COr6_0 v then k (S81 v) else none)) (by kernel_rfl) (by rw [if_pos (c.1)])), D81 v c⟩ (fc ⟨by kernel_rfl, g (by kernel_rfl) (fun R k => by kernel_rfl), D87 v c⟩ (fc ⟨by kernel_rfl, g (by kernel_rfl) (fun R k => by kernel_rfl), D88 v c⟩ fz)))
theorem D57 (v : VO sr6) (c : Cr6 v) : Dag env opsr6 (S132 v) (mk 67199) (S57 v) := .fork [(7, (mk 67327), S83 v), (11, (mk 69247), S85 v), (13, (mk 75391), S86 v)] (by kernel_rfl) (by simp) (fc ⟨by kernel_rfl, g (by kernel_rfl) (fun R k => by kernel_rfl), D83 v c⟩ (fc ⟨by kernel_rfl, g (by kernel_rfl) (fun R k => by kernel_rfl), D85 v c⟩ (fc ⟨by kernel_rfl, g (by kernel_rfl) (fun R k => by kernel_rfl), D86 v c⟩ fz)))
theorem D56 (v : VO sr6) (c : Cr6 v) : Dag env opsr6 (S132 v) (mk 9855) (S56 v) := .fork [(7, (mk 9983), S82 v), (11, (mk 11903), S84 v), (16, (mk 75391), S86 v)] (by kernel_rfl) (by simp) (fc ⟨by kernel_rfl, g (by kernel_rfl) (fun R k => by kernel_rfl), D82 v c⟩ (fc ⟨by kernel_rfl, g (by kernel_rfl) (fun R k => by kernel_rfl), D84 v c⟩ (fc ⟨by kernel_rfl, g (by kernel_rfl) (fun R k => by kernel_rfl), D86 v c⟩ fz)))
theorem D55 (v : VO sr6) (c : Cr6 v) : Dag env opsr6 (S132 v) (mk 3711) (S55 v) := .fork [(7, (mk 3839), S81 v), (13, (mk 11903), S84 v), (16, (mk 69247), S85 v)] (by kernel_rfl) (by simp) (fc ⟨by kernel_rfl, g (by kernel_rfl) (fun R k => by kernel_rfl), D81 v c⟩ (fc ⟨by kernel_rfl, g (by kernel_rfl) (fun R k => by kernel_rfl), D84 v c⟩ (fc ⟨by kernel_rfl, g (by kernel_rfl) (fun R k => by kernel_rfl), D85 v c⟩ fz)))
theorem D54 (v : VO sr6) (c : Cr6 v) : Dag env opsr6 (S132 v) (mk 1791) (S54 v) := .fork [(8, (mk 2047), S80 v), (11, (mk 3839), S81 v), (13, (mk 9983), S82 v), (16, (mk 67327), S83 v)] (by kernel_rfl) (by simp) (fc ⟨by kernel_rfl, g (by kernel_rfl) (fun R k => Eq.trans (b := (if COr6_1 v then k (S80 v) else none)) (by kernel_rfl) (by rw [if_pos (c.2.1)])), D80 v c⟩ (fc ⟨by kernel_rfl, g (by kernel_rfl) (fun R k => by kernel_rfl), D81 v c⟩ (fc ⟨by kernel_rfl, g (by kernel_rfl) (fun R k => by kernel_rfl), D82 v c⟩ (fc ⟨by kernel_rfl, g (by kernel_rfl) (fun R k => by kernel_rfl), D83 v c⟩ fz))))
theorem D53 (v : VO sr6) (c : Cr6 v) : Dag env opsr6 (S132 v) (mk 77339) (S53 v) := .fork [(2, (mk 77343), S67 v), (5, (mk 77371), S78 v), (7, (mk 77467), S79 v)] (by kernel_rfl) (by simp) (fc ⟨by kernel_rfl, g (by kernel_rfl) (fun R k => by kernel_rfl), D67 v c⟩ (fc ⟨by kernel_rfl, g (by kernel_rfl) (fun R k => by kernel_rfl), D78 v c⟩ (fc ⟨by kernel_rfl, g (by kernel_rfl) (fun R k => by kernel_rfl), D79 v c⟩ fz)))
theorem D52 (v : VO sr6) (c : Cr6 v) : Dag env opsr6 (S132 v) (mk 75419) (S52 v) := .fork [(2, (mk 75423), S66 v), (5, (mk 75451), S77 v), (11, (mk 77467), S79 v)] (by kernel_rfl) (by simp) (fc ⟨by kernel_rfl, g (by kernel_rfl) (fun R k => by kernel_rfl), D66 v c⟩ (fc ⟨by kernel_rfl, g (by kernel_rfl) (fun R k => by kernel_rfl), D77 v c⟩ (fc ⟨by kernel_rfl, g (by kernel_rfl) (fun R k => by kernel_rfl), D79 v c⟩ fz)))
theorem D51 (v : VO sr6) (c : Cr6 v) : Dag env opsr6 (S132 v) (mk 69275) (S51 v) := .fork [(2, (mk 69279), S65 v), (5, (mk 69307), S76 v), (13, (mk 77467), S79 v)] (by kernel_rfl) (by simp) (fc ⟨by kernel_rfl, g (by kernel_rfl) (fun R k => by kernel_rfl), D65 v c⟩ (fc ⟨by kernel_rfl, g (by kernel_rfl) (fun R k => by kernel_rfl), D76 v c⟩ (fc ⟨by kernel_rfl, g (by kernel_rfl) (fun R k => by kernel_rfl), D79 v c⟩ fz)))
theorem D50 (v : VO sr6) (c : Cr6 v) : Dag env opsr6 (S132 v) (mk 11931) (S50 v) := .fork [(2, (mk 11935), S64 v), (5, (mk 11963), S75 v), (16, (mk 77467), S79 v)] (by kernel_rfl) (by simp) (fc ⟨by kernel_rfl, g (by kernel_rfl) (fun R k => by kernel_rfl), D64 v c⟩ (fc ⟨by kernel_rfl, g (by kernel_rfl) (fun R k => by kernel_rfl), D75 v c⟩ (fc ⟨by kernel_rfl, g (by kernel_rfl) (fun R k => by kernel_rfl), D79 v c⟩ fz)))
theorem D49 (v : VO sr6) (c : Cr6 v) : Dag env opsr6 (S132 v) (mk 75323) (S49 v) := .fork [(2, (mk 75327), S63 v), (6, (mk 75387), S74 v), (7, (mk 75451), S77 v), (11, (mk 77371), S78 v)] (by kernel_rfl) (by simp) (fc ⟨by kernel_rfl, g (by kernel_rfl) (fun R k => by kernel_rfl), D63 v c⟩ (fc ⟨by kernel_rfl, g (by kernel_rfl) (fun R k => Eq.trans (b := (if COr6_0 v then k (S74 v) else none)) (by kernel_rfl) (by rw [if_pos (c.1)])), D74 v c⟩ (fc ⟨by kernel_rfl, g (by kernel_rfl) (fun R k => by kernel_rfl), D77 v c⟩ (fc ⟨by kernel_rfl, g (by kernel_rfl) (fun R k => by kernel_rfl), D78 v c⟩ fz))))
theorem D48 (v : VO sr6) (c : Cr6 v) : Dag env opsr6 (S132 v) (mk 69179) (S48 v) := .fork [(2, (mk 69183), S62 v), (6, (mk 69243), S73 v), (7, (mk 69307), S76 v), (13, (mk 77371), S78 v)] (by kernel_rfl) (by simp) (fc ⟨by kernel_rfl, g (by kernel_rfl) (fun R k => by kernel_rfl), D62 v c⟩ (fc ⟨by kernel_rfl, g (by kernel_rfl) (fun R k => Eq.trans (b := (if COr6_0 v then k (S73 v) else none)) (by kernel_rfl) (by rw [if_pos (c.1)])), D73 v c⟩ (fc ⟨by kernel_rfl, g (by kernel_rfl) (fun R k => by kernel_rfl), D76 v c⟩ (fc ⟨by kernel_rfl, g (by kernel_rfl) (fun R k => by kernel_rfl), D78 v c⟩ fz))))
theorem D47 (v : VO sr6) (c : Cr6 v) : Dag env opsr6 (S132 v) (mk 11835) (S47 v) := .fork [(2, (mk 11839), S61 v), (6, (mk 11899), S72 v), (7, (mk 11963), S75 v), (16, (mk 77371), S78 v)] (by kernel_rfl) (by simp) (fc ⟨by kernel_rfl, g (by kernel_rfl) (fun R k => by kernel_rfl), D61 v c⟩ (fc ⟨by kernel_rfl, g (by kernel_rfl) (fun R k => Eq.trans (b := (if COr6_0 v then k (S72 v) else none)) (by kernel_rfl) (by rw [if_pos (c.1)])), D72 v c⟩ (fc ⟨by kernel_rfl, g (by kernel_rfl) (fun R k => by kernel_rfl), D75 v c⟩ (fc ⟨by kernel_rfl, g (by kernel_rfl) (fun R k => by kernel_rfl), D78 v c⟩ fz))))
theorem D46 (v : VO sr6) (c : Cr6 v) : Dag env opsr6 (S132 v) (mk 67259) (S46 v) := .fork [(2, (mk 67263), S60 v), (6, (mk 67323), S71 v), (11, (mk 69307), S76 v), (13, (mk 75451), S77 v)] (by kernel_rfl) (by simp) (fc ⟨by kernel_rfl, g (by kernel_rfl) (fun R k => by kernel_rfl), D60 v c⟩ (fc ⟨by kernel_rfl, g (by kernel_rfl) (fun R k => Eq.trans (b := (if COr6_0 v then k (S71 v) else none)) (by kernel_rfl) (by rw [if_pos (c.1)])), D71 v c⟩ (fc ⟨by kernel_rfl, g (by kernel_rfl) (fun R k => by kernel_rfl), D76 v c⟩ (fc ⟨by kernel_rfl, g (by kernel_rfl) (fun R k => by kernel_rfl), D77 v c⟩ fz))))
theorem D45 (v : VO sr6) (c : Cr6 v) : Dag env opsr6 (S132 v) (mk 9915) (S45 v) := .fork [(2, (mk 9919), S59 v), (6, (mk 9979), S70 v), (11, (mk 11963), S75 v), (16, (mk 75451), S77 v)] (by kernel_rfl) (by simp) (fc ⟨by kernel_rfl, g (by kernel_rfl) (fun R k => by kernel_rfl), D59 v c⟩ (fc ⟨by kernel_rfl, g (by kernel_rfl) (fun R k => Eq.trans (b := (if COr6_0 v then k (S70 v) else none)) (by kernel_rfl) (by rw [if_pos (c.1)])), D70 v c⟩ (fc ⟨by kernel_rfl, g (by kernel_rfl) (fun R k => by kernel_rfl), D75 v c⟩ (fc ⟨by kernel_rfl, g (by kernel_rfl) (fun R k => by kernel_rfl), D77 v c⟩ fz))))
theorem D44 (v : VO sr6) (c : Cr6 v) : Dag env opsr6 (S132 v) (mk 3771) (S44 v) := .fork [(2, (mk 3775), S58 v), (6, (mk 3835), S69 v), (13, (mk 11963), S75 v), (16, (mk 69307), S76 v)] (by kernel_rfl) (by simp) (fc ⟨by kernel_rfl, g (by kernel_rfl) (fun R k => by kernel_rfl), D58 v c⟩ (fc ⟨by kernel_rfl, g (by kernel_rfl) (fun R k => Eq.trans (b := (if COr6_0 v then k (S69 v) else none)) (by kernel_rfl) (by rw [if_pos (c.1)])), D69 v c⟩ (fc ⟨by kernel_rfl, g (by kernel_rfl) (fun R k => by kernel_rfl), D75 v c⟩ (fc ⟨by kernel_rfl, g (by kernel_rfl) (fun R k => by kernel_rfl), D76 v c⟩ fz))))
theorem D43 (v : VO sr6) (c : Cr6 v) : Dag env opsr6 (S132 v) (mk 67195) (S43 v) := .fork [(2, (mk 67199), S57 v), (7, (mk 67323), S71 v), (11, (mk 69243), S73 v), (13, (mk 75387), S74 v)] (by kernel_rfl) (by simp) (fc ⟨by kernel_rfl, g (by kernel_rfl) (fun R k => by kernel_rfl), D57 v c⟩ (fc ⟨by kernel_rfl, g (by kernel_rfl) (fun R k => by kernel_rfl), D71 v c⟩ (fc ⟨by kernel_rfl, g (by kernel_rfl) (fun R k => by kernel_rfl), D73 v c⟩ (fc ⟨by kernel_rfl, g (by kernel_rfl) (fun R k => by kernel_rfl), D74 v c⟩ fz))))
theorem D42 (v : VO sr6) (c : Cr6 v) : Dag env opsr6 (S132 v) (mk 9851) (S42 v) := .fork [(2, (mk 9855), S56 v), (7, (mk 9979), S70 v), (11, (mk 11899), S72 v), (16, (mk 75387), S74 v)] (by kernel_rfl) (by simp) (fc ⟨by kernel_rfl, g (by kernel_rfl) (fun R k => by kernel_rfl), D56 v c⟩ (fc ⟨by kernel_rfl, g (by kernel_rfl) (fun R k => by kernel_rfl), D70 v c⟩ (fc ⟨by kernel_rfl, g (by kernel_rfl) (fun R k => by kernel_rfl), D72 v c⟩ (fc ⟨by kernel_rfl, g (by kernel_rfl) (fun R k => by kernel_rfl), D74 v c⟩ fz))))
theorem D41 (v : VO sr6) (c : Cr6 v) : Dag env opsr6 (S132 v) (mk 3707) (S41 v) := .fork [(2, (mk 3711), S55 v), (7, (mk 3835), S69 v), (13, (mk 11899), S72 v), (16, (mk 69243), S73 v)] (by kernel_rfl) (by simp) (fc ⟨by kernel_rfl, g (by kernel_rfl) (fun R k => by kernel_rfl), D55 v c⟩ (fc ⟨by kernel_rfl, g (by kernel_rfl) (fun R k => by kernel_rfl), D69 v c⟩ (fc ⟨by kernel_rfl, g (by kernel_rfl) (fun R k => by kernel_rfl), D72 v c⟩ (fc ⟨by kernel_rfl, g (by kernel_rfl) (fun R k => by kernel_rfl), D73 v c⟩ fz))))
theorem D40 (v : VO sr6) (c : Cr6 v) : Dag env opsr6 (S132 v) (mk 1787) (S40 v) := .fork [(2, (mk 1791), S54 v), (8, (mk 2043), S68 v), (11, (mk 3835), S69 v), (13, (mk 9979), S70 v), (16, (mk 67323), S71 v)] (by kernel_rfl) (by simp) (fc ⟨by kernel_rfl, g (by kernel_rfl) (fun R k => by kernel_rfl), D54 v c⟩ (fc ⟨by kernel_rfl, g (by kernel_rfl) (fun R k => Eq.trans (b := (if COr6_1 v then k (S68 v) else none)) (by kernel_rfl) (by rw [if_pos (c.2.1)])), D68 v c⟩ (fc ⟨by kernel_rfl, g (by kernel_rfl) (fun R k => by kernel_rfl), D69 v c⟩ (fc ⟨by kernel_rfl, g (by kernel_rfl) (fun R k => by kernel_rfl), D70 v c⟩ (fc ⟨by kernel_rfl, g (by kernel_rfl) (fun R k => by kernel_rfl), D71 v c⟩ fz)))))
theorem D39 (v : VO sr6) (c : Cr6 v) : Dag env opsr6 (S132 v) (mk 75295) (S39 v) := .fork [(5, (mk 75327), S63 v), (7, (mk 75423), S66 v), (11, (mk 77343), S67 v)] (by kernel_rfl) (by simp) (fc ⟨by kernel_rfl, g (by kernel_rfl) (fun R k => by kernel_rfl), D63 v c⟩ (fc ⟨by kernel_rfl, g (by kernel_rfl) (fun R k => by kernel_rfl), D66 v c⟩ (fc ⟨by kernel_rfl, g (by kernel_rfl) (fun R k => by kernel_rfl), D67 v c⟩ fz)))
theorem D38 (v : VO sr6) (c : Cr6 v) : Dag env opsr6 (S132 v) (mk 69151) (S38 v) := .fork [(5, (mk 69183), S62 v), (7, (mk 69279), S65 v), (13, (mk 77343), S67 v)] (by kernel_rfl) (by simp) (fc ⟨by kernel_rfl, g (by kernel_rfl) (fun R k => by kernel_rfl), D62 v c⟩ (fc ⟨by kernel_rfl, g (by kernel_rfl) (fun R k => by kernel_rfl), D65 v c⟩ (fc ⟨by kernel_rfl, g (by kernel_rfl) (fun R k => by kernel_rfl), D67 v c⟩ fz)))
theorem D37 (v : VO sr6) (c : Cr6 v) : Dag env opsr6 (S132 v) (mk 11807) (S37 v) := .fork [(5, (mk 11839), S61 v), (7, (mk 11935), S64 v), (16, (mk 77343), S67 v)] (by kernel_rfl) (by simp) (fc ⟨by kernel_rfl, g (by kernel_rfl) (fun R k => by kernel_rfl), D61 v c⟩ (fc ⟨by kernel_rfl, g (by kernel_rfl) (fun R k => by kernel_rfl), D64 v c⟩ (fc ⟨by kernel_rfl, g (by kernel_rfl) (fun R k => by kernel_rfl), D67 v c⟩ fz)))
theorem D36 (v : VO sr6) (c : Cr6 v) : Dag env opsr6 (S132 v) (mk 67231) (S36 v) := .fork [(5, (mk 67263), S60 v), (11, (mk 69279), S65 v), (13, (mk 75423), S66 v)] (by kernel_rfl) (by simp) (fc ⟨by kernel_rfl, g (by kernel_rfl) (fun R k => by kernel_rfl), D60 v c⟩ (fc ⟨by kernel_rfl, g (by kernel_rfl) (fun R k => by kernel_rfl), D65 v c⟩ (fc ⟨by kernel_rfl, g (by kernel_rfl) (fun R k => by kernel_rfl), D66 v c⟩ fz)))
theorem D35 (v : VO sr6) (c : Cr6 v) : Dag env opsr6 (S132 v) (mk 9887) (S35 v) := .fork [(5, (mk 9919), S59 v), (11, (mk 11935), S64 v), (16, (mk 75423), S66 v)] (by kernel_rfl) (by simp) (fc ⟨by kernel_rfl, g (by kernel_rfl) (fun R k => by kernel_rfl), D59 v c⟩ (fc ⟨by kernel_rfl, g (by kernel_rfl) (fun R k => by kernel_rfl), D64 v c⟩ (fc ⟨by kernel_rfl, g (by kernel_rfl) (fun R k => by kernel_rfl), D66 v c⟩ fz)))
theorem D34 (v : VO sr6) (c : Cr6 v) : Dag env opsr6 (S132 v) (mk 3743) (S34 v) := .fork [(5, (mk 3775), S58 v), (13, (mk 11935), S64 v), (16, (mk 69279), S65 v)] (by kernel_rfl) (by simp) (fc ⟨by kernel_rfl, g (by kernel_rfl) (fun R k => by kernel_rfl), D58 v c⟩ (fc ⟨by kernel_rfl, g (by kernel_rfl) (fun R k => by kernel_rfl), D64 v c⟩ (fc ⟨by kernel_rfl, g (by kernel_rfl) (fun R k => by kernel_rfl), D65 v c⟩ fz)))
theorem D33 (v : VO sr6) (c : Cr6 v) : Dag env opsr6 (S132 v) (mk 67135) (S33 v) := .fork [(6, (mk 67199), S57 v), (7, (mk 67263), S60 v), (11, (mk 69183), S62 v), (13, (mk 75327), S63 v)] (by kernel_rfl) (by simp) (fc ⟨by kernel_rfl, g (by kernel_rfl) (fun R k => Eq.trans (b := (if COr6_0 v then k (S57 v) else none)) (by kernel_rfl) (by rw [if_pos (c.1)])), D57 v c⟩ (fc ⟨by kernel_rfl, g (by kernel_rfl) (fun R k => by kernel_rfl), D60 v c⟩ (fc ⟨by kernel_rfl, g (by kernel_rfl) (fun R k => by kernel_rfl), D62 v c⟩ (fc ⟨by kernel_rfl, g (by kernel_rfl) (fun R k => by kernel_rfl), D63 v c⟩ fz))))
theorem D32 (v : VO sr6) (c : Cr6 v) : Dag env opsr6 (S132 v) (mk 9791) (S32 v) := .fork [(6, (mk 9855), S56 v), (7, (mk 9919), S59 v), (11, (mk 11839), S61 v), (16, (mk 75327), S63 v)] (by kernel_rfl) (by simp) (fc ⟨by kernel_rfl, g (by kernel_rfl) (fun R k => Eq.trans (b := (if COr6_0 v then k (S56 v) else none)) (by kernel_rfl) (by rw [if_pos (c.1)])), D56 v c⟩ (fc ⟨by kernel_rfl, g (by kernel_rfl) (fun R k => by kernel_rfl), D59 v c⟩ (fc ⟨by kernel_rfl, g (by kernel_rfl) (fun R k => by kernel_rfl), D61 v c⟩ (fc ⟨by kernel_rfl, g (by kernel_rfl) (fun R k => by kernel_rfl), D63 v c⟩ fz))))
theorem D31 (v : VO sr6) (c : Cr6 v) : Dag env opsr6 (S132 v) (mk 3647) (S31 v) := .fork [(6, (mk 3711), S55 v), (7, (mk 3775), S58 v), (13, (mk 11839), S61 v), (16, (mk 69183), S62 v)] (by kernel_rfl) (by simp) (fc ⟨by kernel_rfl, g (by kernel_rfl) (fun R k => Eq.trans (b := (if COr6_0 v then k (S55 v) else none)) (by kernel_rfl) (by rw [if_pos (c.1)])), D55 v c⟩ (fc ⟨by kernel_rfl, g (by kernel_rfl) (fun R k => by kernel_rfl), D58 v c⟩ (fc ⟨by kernel_rfl, g (by kernel_rfl) (fun R k => by kernel_rfl), D61 v c⟩ (fc ⟨by kernel_rfl, g (by kernel_rfl) (fun R k => by kernel_rfl), D62 v c⟩ fz))))
theorem D30 (v : VO sr6) (c : Cr6 v) : Dag env opsr6 (S132 v) (mk 1727) (S30 v) := .fork [(6, (mk 1791), S54 v), (11, (mk 3775), S58 v), (13, (mk 9919), S59 v), (16, (mk 67263), S60 v)] (by kernel_rfl) (by simp) (fc ⟨by kernel_rfl, g (by kernel_rfl) (fun R k => Eq.trans (b := (if COr6_0 v then k (S54 v) else none)) (by kernel_rfl) (by rw [if_pos (c.1)])), D54 v c⟩ (fc ⟨by kernel_rfl, g (by kernel_rfl) (fun R k => by kernel_rfl), D58 v c⟩ (fc ⟨by kernel_rfl, g (by kernel_rfl) (fun R k => by kernel_rfl), D59 v c⟩ (fc ⟨by kernel_rfl, g (by kernel_rfl) (fun R k => by kernel_rfl), D60 v c⟩ fz))))
theorem D29 (v : VO sr6) (c : Cr6 v) : Dag env opsr6 (S132 v) (mk 1663) (S29 v) := .fork [(7, (mk 1791), S54 v), (11, (mk 3711), S55 v), (13, (mk 9855), S56 v), (16, (mk 67199), S57 v)] (by kernel_rfl) (by simp) (fc ⟨by kernel_rfl, g (by kernel_rfl) (fun R k => by kernel_rfl), D54 v c⟩ (fc ⟨by kernel_rfl, g (by kernel_rfl) (fun R k => by kernel_rfl), D55 v c⟩ (fc ⟨by kernel_rfl, g (by kernel_rfl) (fun R k => by kernel_rfl), D56 v c⟩ (fc ⟨by kernel_rfl, g (by kernel_rfl) (fun R k => by kernel_rfl), D57 v c⟩ fz))))
theorem D28 (v : VO sr6) (c : Cr6 v) : Dag env opsr6 (S132 v) (mk 75291) (S28 v) := .fork [(2, (mk 75295), S39 v), (5, (mk 75323), S49 v), (7, (mk 75419), S52 v), (11, (mk 77339), S53 v)] (by kernel_rfl) (by simp) (fc ⟨by kernel_rfl, g (by kernel_rfl) (fun R k => by kernel_rfl), D39 v c⟩ (fc ⟨by kernel_rfl, g (by kernel_rfl) (fun R k => by kernel_rfl), D49 v c⟩ (fc ⟨by kernel_rfl, g (by kernel_rfl) (fun R k => by kernel_rfl), D52 v c⟩ (fc ⟨by kernel_rfl, g (by kernel_rfl) (fun R k => by kernel_rfl), D53 v c⟩ fz))))
theorem D27 (v : VO sr6) (c : Cr6 v) : Dag env opsr6 (S132 v) (mk 69147) (S27 v) := .fork [(2, (mk 69151), S38 v), (5, (mk 69179), S48 v), (7, (mk 69275), S51 v), (13, (mk 77339), S53 v)] (by kernel_rfl) (by simp) (fc ⟨by kernel_rfl, g (by kernel_rfl) (fun R k => by kernel_rfl), D38 v c⟩ (fc ⟨by kernel_rfl, g (by kernel_rfl) (fun R k => by kernel_rfl), D48 v c⟩ (fc ⟨by kernel_rfl, g (by kernel_rfl) (fun R k => by kernel_rfl), D51 v c⟩ (fc ⟨by kernel_rfl, g (by kernel_rfl) (fun R k => by kernel_rfl), D53 v c⟩ fz))))
theorem D26 (v : VO sr6) (c : Cr6 v) : Dag env opsr6 (S132 v) (mk 11803) (S26 v) := .fork [(2, (mk 11807), S37 v), (5, (mk 11835), S47 v), (7, (mk 11931), S50 v), (16, (mk 77339), S53 v)] (by kernel_rfl) (by simp) (fc ⟨by kernel_rfl, g (by kernel_rfl) (fun R k => by kernel_rfl), D37 v c⟩ (fc ⟨by kernel_rfl, g (by kernel_rfl) (fun R k => by kernel_rfl), D47 v c⟩ (fc ⟨by kernel_rfl, g (by kernel_rfl) (fun R k => by kernel_rfl), D50 v c⟩ (fc ⟨by kernel_rfl, g (by kernel_rfl) (fun R k => by kernel_rfl), D53 v c⟩ fz))))
theorem D25 (v : VO sr6) (c : Cr6 v) : Dag env opsr6 (S132 v) (mk 67227) (S25 v) := .fork [(2, (mk 67231), S36 v), (5, (mk 67259), S46 v), (11, (mk 69275), S51 v), (13, (mk 75419), S52 v)] (by kernel_rfl) (by simp) (fc ⟨by kernel_rfl, g (by kernel_rfl) (fun R k => by kernel_rfl), D36 v c⟩ (fc ⟨by kernel_rfl, g (by kernel_rfl) (fun R k => by kernel_rfl), D46 v c⟩ (fc ⟨by kernel_rfl, g (by kernel_rfl) (fun R k => by kernel_rfl), D51 v c⟩ (fc ⟨by kernel_rfl, g (by kernel_rfl) (fun R k => by kernel_rfl), D52 v c⟩ fz))))
theorem D24 (v : VO sr6) (c : Cr6 v) : Dag env opsr6 (S132 v) (mk 9883) (S24 v) := .fork [(2, (mk 9887), S35 v), (5, (mk 9915), S45 v), (11, (mk 11931), S50 v), (16, (mk 75419), S52 v)] (by kernel_rfl) (by simp) (fc ⟨by kernel_rfl, g (by kernel_rfl) (fun R k => by kernel_rfl), D35 v c⟩ (fc ⟨by kernel_rfl, g (by kernel_rfl) (fun R k => by kernel_rfl), D45 v c⟩ (fc ⟨by kernel_rfl, g (by kernel_rfl) (fun R k => by kernel_rfl), D50 v c⟩ (fc ⟨by kernel_rfl, g (by kernel_rfl) (fun R k => by kernel_rfl), D52 v c⟩ fz))))
theorem D23 (v : VO sr6) (c : Cr6 v) : Dag env opsr6 (S132 v) (mk 3739) (S23 v) := .fork [(2, (mk 3743), S34 v), (5, (mk 3771), S44 v), (13, (mk 11931), S50 v), (16, (mk 69275), S51 v)] (by kernel_rfl) (by simp) (fc ⟨by kernel_rfl, g (by kernel_rfl) (fun R k => by kernel_rfl), D34 v c⟩ (fc ⟨by kernel_rfl, g (by kernel_rfl) (fun R k => by kernel_rfl), D44 v c⟩ (fc ⟨by kernel_rfl, g (by kernel_rfl) (fun R k => by kernel_rfl), D50 v c⟩ (fc ⟨by kernel_rfl, g (by kernel_rfl) (fun R k => by kernel_rfl), D51 v c⟩ fz))))
theorem D22 (v : VO sr6) (c : Cr6 v) : Dag env opsr6 (S132 v) (mk 67131) (S22 v) := .fork [(2, (mk 67135), S33 v), (6, (mk 67195), S43 v), (7, (mk 67259), S46 v), (11, (mk 69179), S48 v), (13, (mk 75323), S49 v)] (by kernel_rfl) (by simp) (fc ⟨by kernel_rfl, g (by kernel_rfl) (fun R k => by kernel_rfl), D33 v c⟩ (fc ⟨by kernel_rfl, g (by kernel_rfl) (fun R k => Eq.trans (b := (if COr6_0 v then k (S43 v) else none)) (by kernel_rfl) (by rw [if_pos (c.1)])), D43 v c⟩ (fc ⟨by kernel_rfl, g (by kernel_rfl) (fun R k => by kernel_rfl), D46 v c⟩ (fc ⟨by kernel_rfl, g (by kernel_rfl) (fun R k => by kernel_rfl), D48 v c⟩ (fc ⟨by kernel_rfl, g (by kernel_rfl) (fun R k => by kernel_rfl), D49 v c⟩ fz)))))
theorem D21 (v : VO sr6) (c : Cr6 v) : Dag env opsr6 (S132 v) (mk 9787) (S21 v) := .fork [(2, (mk 9791), S32 v), (6, (mk 9851), S42 v), (7, (mk 9915), S45 v), (11, (mk 11835), S47 v), (16, (mk 75323), S49 v)] (by kernel_rfl) (by simp) (fc ⟨by kernel_rfl, g (by kernel_rfl) (fun R k => by kernel_rfl), D32 v c⟩ (fc ⟨by kernel_rfl, g (by kernel_rfl) (fun R k => Eq.trans (b := (if COr6_0 v then k (S42 v) else none)) (by kernel_rfl) (by rw [if_pos (c.1)])), D42 v c⟩ (fc ⟨by kernel_rfl, g (by kernel_rfl) (fun R k => by kernel_rfl), D45 v c⟩ (fc ⟨by kernel_rfl, g (by kernel_rfl) (fun R k => by kernel_rfl), D47 v c⟩ (fc ⟨by kernel_rfl, g (by kernel_rfl) (fun R k => by kernel_rfl), D49 v c⟩ fz)))))
theorem D20 (v : VO sr6) (c : Cr6 v) : Dag env opsr6 (S132 v) (mk 3643) (S20 v) := .fork [(2, (mk 3647), S31 v), (6, (mk 3707), S41 v), (7, (mk 3771), S44 v), (13, (mk 11835), S47 v), (16, (mk 69179), S48 v)] (by kernel_rfl) (by simp) (fc ⟨by kernel_rfl, g (by kernel_rfl) (fun R k => by kernel_rfl), D31 v c⟩ (fc ⟨by kernel_rfl, g (by kernel_rfl) (fun R k => Eq.trans (b := (if COr6_0 v then k (S41 v) else none)) (by kernel_rfl) (by rw [if_pos (c.1)])), D41 v c⟩ (fc ⟨by kernel_rfl, g (by kernel_rfl) (fun R k => by kernel_rfl), D44 v c⟩ (fc ⟨by kernel_rfl, g (by kernel_rfl) (fun R k => by kernel_rfl), D47 v c⟩ (fc ⟨by kernel_rfl, g (by kernel_rfl) (fun R k => by kernel_rfl), D48 v c⟩ fz)))))
theorem D19 (v : VO sr6) (c : Cr6 v) : Dag env opsr6 (S132 v) (mk 1723) (S19 v) := .fork [(2, (mk 1727), S30 v), (6, (mk 1787), S40 v), (11, (mk 3771), S44 v), (13, (mk 9915), S45 v), (16, (mk 67259), S46 v)] (by kernel_rfl) (by simp) (fc ⟨by kernel_rfl, g (by kernel_rfl) (fun R k => by kernel_rfl), D30 v c⟩ (fc ⟨by kernel_rfl, g (by kernel_rfl) (fun R k => Eq.trans (b := (if COr6_0 v then k (S40 v) else none)) (by kernel_rfl) (by rw [if_pos (c.1)])), D40 v c⟩ (fc ⟨by kernel_rfl, g (by kernel_rfl) (fun R k => by kernel_rfl), D44 v c⟩ (fc ⟨by kernel_rfl, g (by kernel_rfl) (fun R k => by kernel_rfl), D45 v c⟩ (fc ⟨by kernel_rfl, g (by kernel_rfl) (fun R k => by kernel_rfl), D46 v c⟩ fz)))))
theorem D18 (v : VO sr6) (c : Cr6 v) : Dag env opsr6 (S132 v) (mk 1659) (S18 v) := .fork [(2, (mk 1663), S29 v), (7, (mk 1787), S40 v), (11, (mk 3707), S41 v), (13, (mk 9851), S42 v), (16, (mk 67195), S43 v)] (by kernel_rfl) (by simp) (fc ⟨by kernel_rfl, g (by kernel_rfl) (fun R k => by kernel_rfl), D29 v c⟩ (fc ⟨by kernel_rfl, g (by kernel_rfl) (fun R k => by kernel_rfl), D40 v c⟩ (fc ⟨by kernel_rfl, g (by kernel_rfl) (fun R k => by kernel_rfl), D41 v c⟩ (fc ⟨by kernel_rfl, g (by kernel_rfl) (fun R k => by kernel_rfl), D42 v c⟩ (fc ⟨by kernel_rfl, g (by kernel_rfl) (fun R k => by kernel_rfl), D43 v c⟩ fz)))))
theorem D17 (v : VO sr6) (c : Cr6 v) : Dag env opsr6 (S132 v) (mk 67103) (S17 v) := .fork [(5, (mk 67135), S33 v), (7, (mk 67231), S36 v), (11, (mk 69151), S38 v), (13, (mk 75295), S39 v)] (by kernel_rfl) (by simp) (fc ⟨by kernel_rfl, g (by kernel_rfl) (fun R k => by kernel_rfl), D33 v c⟩ (fc ⟨by kernel_rfl, g (by kernel_rfl) (fun R k => by kernel_rfl), D36 v c⟩ (fc ⟨by kernel_rfl, g (by kernel_rfl) (fun R k => by kernel_rfl), D38 v c⟩ (fc ⟨by kernel_rfl, g (by kernel_rfl) (fun R k => by kernel_rfl), D39 v c⟩ fz))))
theorem D16 (v : VO sr6) (c : Cr6 v) : Dag env opsr6 (S132 v) (mk 9759) (S16 v) := .fork [(5, (mk 9791), S32 v), (7, (mk 9887), S35 v), (11, (mk 11807), S37 v), (16, (mk 75295), S39 v)] (by kernel_rfl) (by simp) (fc ⟨by kernel_rfl, g (by kernel_rfl) (fun R k => by kernel_rfl), D32 v c⟩ (fc ⟨by kernel_rfl, g (by kernel_rfl) (fun R k => by kernel_rfl), D35 v c⟩ (fc ⟨by kernel_rfl, g (by kernel_rfl) (fun R k => by kernel_rfl), D37 v c⟩ (fc ⟨by kernel_rfl, g (by kernel_rfl) (fun R k => by kernel_rfl), D39 v c⟩ fz))))
theorem D15 (v : VO sr6) (c : Cr6 v) : Dag env opsr6 (S132 v) (mk 3615) (S15 v) := .fork [(5, (mk 3647), S31 v), (7, (mk 3743), S34 v), (13, (mk 11807), S37 v), (16, (mk 69151), S38 v)] (by kernel_rfl) (by simp) (fc ⟨by kernel_rfl, g (by kernel_rfl) (fun R k => by kernel_rfl), D31 v c⟩ (fc ⟨by kernel_rfl, g (by kernel_rfl) (fun R k => by kernel_rfl), D34 v c⟩ (fc ⟨by kernel_rfl, g (by kernel_rfl) (fun R k => by kernel_rfl), D37 v c⟩ (fc ⟨by kernel_rfl, g (by kernel_rfl) (fun R k => by kernel_rfl), D38 v c⟩ fz))))
theorem D14 (v : VO sr6) (c : Cr6 v) : Dag env opsr6 (S132 v) (mk 1695) (S14 v) := .fork [(5, (mk 1727), S30 v), (11, (mk 3743), S34 v), (13, (mk 9887), S35 v), (16, (mk 67231), S36 v)] (by kernel_rfl) (by simp) (fc ⟨by kernel_rfl, g (by kernel_rfl) (fun R k => by kernel_rfl), D30 v c⟩ (fc ⟨by kernel_rfl, g (by kernel_rfl) (fun R k => by kernel_rfl), D34 v c⟩ (fc ⟨by kernel_rfl, g (by kernel_rfl) (fun R k => by kernel_rfl), D35 v c⟩ (fc ⟨by kernel_rfl, g (by kernel_rfl) (fun R k => by kernel_rfl), D36 v c⟩ fz))))
theorem D13 (v : VO sr6) (c : Cr6 v) : Dag env opsr6 (S132 v) (mk 1599) (S13 v) := .fork [(6, (mk 1663), S29 v), (7, (mk 1727), S30 v), (11, (mk 3647), S31 v), (13, (mk 9791), S32 v), (16, (mk 67135), S33 v)] (by kernel_rfl) (by simp) (fc ⟨by kernel_rfl, g (by kernel_rfl) (fun R k => Eq.trans (b := (if COr6_0 v then k (S29 v) else none)) (by kernel_rfl) (by rw [if_pos (c.1)])), D29 v c⟩ (fc ⟨by kernel_rfl, g (by kernel_rfl) (fun R k => by kernel_rfl), D30 v c⟩ (fc ⟨by kernel_rfl, g (by kernel_rfl) (fun R k => by kernel_rfl), D31 v c⟩ (fc ⟨by kernel_rfl, g (by kernel_rfl) (fun R k => by kernel_rfl), D32 v c⟩ (fc ⟨by kernel_rfl, g (by kernel_rfl) (fun R k => by kernel_rfl), D33 v c⟩ fz)))))
theorem D12 (v : VO sr6) (c : Cr6 v) : Dag env opsr6 (S132 v) (mk 67099) (S12 v) := .fork [(2, (mk 67103), S17 v), (5, (mk 67131), S22 v), (7, (mk 67227), S25 v), (11, (mk 69147), S27 v), (13, (mk 75291), S28 v)] (by kernel_rfl) (by simp) (fc ⟨by kernel_rfl, g (by kernel_rfl) (fun R k => by kernel_rfl), D17 v c⟩ (fc ⟨by kernel_rfl, g (by kernel_rfl) (fun R k => by kernel_rfl), D22 v c⟩ (fc ⟨by kernel_rfl, g (by kernel_rfl) (fun R k => by kernel_rfl), D25 v c⟩ (fc ⟨by kernel_rfl, g (by kernel_rfl) (fun R k => by kernel_rfl), D27 v c⟩ (fc ⟨by kernel_rfl, g (by kernel_rfl) (fun R k => by kernel_rfl), D28 v c⟩ fz)))))
theorem D11 (v : VO sr6) (c : Cr6 v) : Dag env opsr6 (S132 v) (mk 9755) (S11 v) := .fork [(2, (mk 9759), S16 v), (5, (mk 9787), S21 v), (7, (mk 9883), S24 v), (11, (mk 11803), S26 v), (16, (mk 75291), S28 v)] (by kernel_rfl) (by simp) (fc ⟨by kernel_rfl, g (by kernel_rfl) (fun R k => by kernel_rfl), D16 v c⟩ (fc ⟨by kernel_rfl, g (by kernel_rfl) (fun R k => by kernel_rfl), D21 v c⟩ (fc ⟨by kernel_rfl, g (by kernel_rfl) (fun R k => by kernel_rfl), D24 v c⟩ (fc ⟨by kernel_rfl, g (by kernel_rfl) (fun R k => by kernel_rfl), D26 v c⟩ (fc ⟨by kernel_rfl, g (by kernel_rfl) (fun R k => by kernel_rfl), D28 v c⟩ fz)))))
theorem D10 (v : VO sr6) (c : Cr6 v) : Dag env opsr6 (S132 v) (mk 3611) (S10 v) := .fork [(2, (mk 3615), S15 v), (5, (mk 3643), S20 v), (7, (mk 3739), S23 v), (13, (mk 11803), S26 v), (16, (mk 69147), S27 v)] (by kernel_rfl) (by simp) (fc ⟨by kernel_rfl, g (by kernel_rfl) (fun R k => by kernel_rfl), D15 v c⟩ (fc ⟨by kernel_rfl, g (by kernel_rfl) (fun R k => by kernel_rfl), D20 v c⟩ (fc ⟨by kernel_rfl, g (by kernel_rfl) (fun R k => by kernel_rfl), D23 v c⟩ (fc ⟨by kernel_rfl, g (by kernel_rfl) (fun R k => by kernel_rfl), D26 v c⟩ (fc ⟨by kernel_rfl, g (by kernel_rfl) (fun R k => by kernel_rfl), D27 v c⟩ fz)))))
theorem D9 (v : VO sr6) (c : Cr6 v) : Dag env opsr6 (S132 v) (mk 1691) (S9 v) := .fork [(2, (mk 1695), S14 v), (5, (mk 1723), S19 v), (11, (mk 3739), S23 v), (13, (mk 9883), S24 v), (16, (mk 67227), S25 v)] (by kernel_rfl) (by simp) (fc ⟨by kernel_rfl, g (by kernel_rfl) (fun R k => by kernel_rfl), D14 v c⟩ (fc ⟨by kernel_rfl, g (by kernel_rfl) (fun R k => by kernel_rfl), D19 v c⟩ (fc ⟨by kernel_rfl, g (by kernel_rfl) (fun R k => by kernel_rfl), D23 v c⟩ (fc ⟨by kernel_rfl, g (by kernel_rfl) (fun R k => by kernel_rfl), D24 v c⟩ (fc ⟨by kernel_rfl, g (by kernel_rfl) (fun R k => by kernel_rfl), D25 v c⟩ fz)))))
theorem D8 (v : VO sr6) (c : Cr6 v) : Dag env opsr6 (S132 v) (mk 1595) (S8 v) := .fork [(2, (mk 1599), S13 v), (6, (mk 1659), S18 v), (7, (mk 1723), S19 v), (11, (mk 3643), S20 v), (13, (mk 9787), S21 v), (16, (mk 67131), S22 v)] (by kernel_rfl) (by simp) (fc ⟨by kernel_rfl, g (by kernel_rfl) (fun R k => by kernel_rfl), D13 v c⟩ (fc ⟨by kernel_rfl, g (by kernel_rfl) (fun R k => Eq.trans (b := (if COr6_0 v then k (S18 v) else none)) (by kernel_rfl) (by rw [if_pos (c.1)])), D18 v c⟩ (fc ⟨by kernel_rfl, g (by kernel_rfl) (fun R k => by kernel_rfl), D19 v c⟩ (fc ⟨by kernel_rfl, g (by kernel_rfl) (fun R k => by kernel_rfl), D20 v c⟩ (fc ⟨by kernel_rfl, g (by kernel_rfl) (fun R k => by kernel_rfl), D21 v c⟩ (fc ⟨by kernel_rfl, g (by kernel_rfl) (fun R k => by kernel_rfl), D22 v c⟩ fz))))))
theorem D7 (v : VO sr6) (c : Cr6 v) : Dag env opsr6 (S132 v) (mk 1567) (S7 v) := .fork [(5, (mk 1599), S13 v), (7, (mk 1695), S14 v), (11, (mk 3615), S15 v), (13, (mk 9759), S16 v), (16, (mk 67103), S17 v)] (by kernel_rfl) (by simp) (fc ⟨by kernel_rfl, g (by kernel_rfl) (fun R k => by kernel_rfl), D13 v c⟩ (fc ⟨by kernel_rfl, g (by kernel_rfl) (fun R k => by kernel_rfl), D14 v c⟩ (fc ⟨by kernel_rfl, g (by kernel_rfl) (fun R k => by kernel_rfl), D15 v c⟩ (fc ⟨by kernel_rfl, g (by kernel_rfl) (fun R k => by kernel_rfl), D16 v c⟩ (fc ⟨by kernel_rfl, g (by kernel_rfl) (fun R k => by kernel_rfl), D17 v c⟩ fz)))))
theorem D6 (v : VO sr6) (c : Cr6 v) : Dag env opsr6 (S132 v) (mk 1563) (S6 v) := .fork [(2, (mk 1567), S7 v), (5, (mk 1595), S8 v), (7, (mk 1691), S9 v), (11, (mk 3611), S10 v), (13, (mk 9755), S11 v), (16, (mk 67099), S12 v)] (by kernel_rfl) (by simp) (fc ⟨by kernel_rfl, g (by kernel_rfl) (fun R k => by kernel_rfl), D7 v c⟩ (fc ⟨by kernel_rfl, g (by kernel_rfl) (fun R k => by kernel_rfl), D8 v c⟩ (fc ⟨by kernel_rfl, g (by kernel_rfl) (fun R k => by kernel_rfl), D9 v c⟩ (fc ⟨by kernel_rfl, g (by kernel_rfl) (fun R k => by kernel_rfl), D10 v c⟩ (fc ⟨by kernel_rfl, g (by kernel_rfl) (fun R k => by kernel_rfl), D11 v c⟩ (fc ⟨by kernel_rfl, g (by kernel_rfl) (fun R k => by kernel_rfl), D12 v c⟩ fz))))))
theorem D5 (v : VO sr6) (c : Cr6 v) : Dag env opsr6 (S132 v) (mk 539) (S5 v) := .step1 10 (S6 v) (by kernel_rfl) (by kernel_rfl) (g (by kernel_rfl) (fun R k => by kernel_rfl)) (D6 v c)
theorem D4 (v : VO sr6) (c : Cr6 v) : Dag env opsr6 (S132 v) (mk 27) (S4 v) := .step1 9 (S5 v) (by kernel_rfl) (by kernel_rfl) (g (by kernel_rfl) (fun R k => by kernel_rfl)) (D5 v c)
theorem D3 (v : VO sr6) (c : Cr6 v) : Dag env opsr6 (S132 v) (mk 11) (S3 v) := .step1 4 (S4 v) (by kernel_rfl) (by kernel_rfl) (g (by kernel_rfl) (fun R k => by kernel_rfl)) (D4 v c)
theorem D2 (v : VO sr6) (c : Cr6 v) : Dag env opsr6 (S132 v) (mk 3) (S2 v) := .step1 3 (S3 v) (by kernel_rfl) (by kernel_rfl) (g (by kernel_rfl) (fun R k => by kernel_rfl)) (D3 v c)
theorem D1 (v : VO sr6) (c : Cr6 v) : Dag env opsr6 (S132 v) (mk 1) (S1 v) := .step1 1 (S2 v) (by kernel_rfl) (by kernel_rfl) (g (by kernel_rfl) (fun R k => by kernel_rfl)) (D2 v c)
theorem D0 (v : VO sr6) (c : Cr6 v) : Dag env opsr6 (S132 v) (mk 0) (S0 v) := .step1 0 (S1 v) (by kernel_rfl) (by kernel_rfl) (g (by kernel_rfl) (fun R k => by kernel_rfl)) (D1 v c)
theorem round21 : RoundIs env (sub [true, true, true, true, true, true, true, true, true, true, true, true, true, true, true, false, true, false, false] code) L21 rd21 := fun R v k kx => by kernel_rfl
theorem round25 : RoundIs env (sub [true, true, true, true, true, true, true, true, true, true, true, true, true, true, true, true, false, true, false, false] code) L25 rd25 := fun R v k kx => by kernel_rfl
theorem round29 : RoundIs env (sub [true, true, true, true, true, true, true, true, true, true, true, true, true, true, true, true, true, false, true, false, false] code) L29 rd29 := fun R v k kx => by kernel_rfl
theorem round21v1 : RoundIs env (sub [true, true, true, true, true, true, true, true, true, true, true, true, true, true, true, false, true, false, false] code) L21v1 rd21v1 := fun R v k kx => by kernel_rfl
theorem round25v1 : RoundIs env (sub [true, true, true, true, true, true, true, true, true, true, true, true, true, true, true, true, false, true, false, false] code) L25v1 rd25v1 := fun R v k kx => by kernel_rfl
theorem round29v1 : RoundIs env (sub [true, true, true, true, true, true, true, true, true, true, true, true, true, true, true, true, true, false, true, false, false] code) L29v1 rd29v1 := fun R v k kx => by kernel_rfl
abbrev D : Type := ((Option ((Option (List Int)) × ((List Int) × ((List Int) × ((List Int) × (Int × (Bool × (Int × (Int × ((List Int) × Bool)))))))))) × (Option ((List Int) × ((List Int) × ((List Int) × ((List Bool) × (Int × (Bool × (Int × (Int × Bool))))))))) × Bool × Unit)
noncomputable def run' (s0 : ((List Int) × ((List Int) × (Bool × (Int × ((List Int) × (List Bool))))))) : Option D := (if end17.pre s0.1 = Bool.true then (if IntsO.pre s0.1 = Bool.true then (if layNew.pre (end17.fn s0.1).1 (IntsO.fn s0.1).1 = Bool.true then (if Option.isNone (layNew.fn (end17.fn s0.1).1 (IntsO.fn s0.1).1).1 = Bool.false then (if num17.pre (layNew.fn (end17.fn s0.1).1 (IntsO.fn s0.1).1).2.1 = Bool.true then (if ((num17.fn (layNew.fn (end17.fn s0.1).1 (IntsO.fn s0.1).1).2.1).1 != (0 : Int)) = Bool.true then some (Option.none, Option.none, Bool.true, ())
 else (if IntsO.pre s0.2.1 = Bool.true then (if (List.length (IntsO.fn s0.2.1).1 + List.length [(201 : Int)]) * (8 : Nat) ≤ (140737488355328 : Nat) then (match FGr6 ((layNew.fn (end17.fn s0.1).1 (IntsO.fn s0.1).1).1) ((↑(List.length s0.2.1) : Int)) (s0.1) (s0.2.1) (s0.2.2.1) (s0.2.2.2.1) (s0.2.2.2.2.1) (s0.2.2.2.2.2) ((IntsO.fn s0.2.1).1 ++ [(201 : Int)]) with
  | some (((l5_1, n8_1, _), ((c0x0_1, c0x1_1, c0x2_1, c0x3_1, c0x4_1, c0x5_1, _), r1_1, (c2x0_1, _), r3_1, r4_1, _))) => (if (↑(List.length c0x4_1) : Int) ≤ (↑(List.length r3_1) : Int) then (if (↑(List.length c0x5_1) : Int) ≤ (↑(List.length r4_1) : Int) then (if c0x2_1 = Bool.true then (if (0 : Int) ≤ n8_1 then (if n8_1 ≤ (↑(List.length r1_1) : Int) then (if FromE.pre l5_1 (List.take (Int.toNat n8_1) r1_1) (c2x0_1, List.take (Int.toNat (↑(List.length c0x4_1) : Int)) r3_1, List.take (Int.toNat (↑(List.length c0x5_1) : Int)) r4_1) = Bool.true then (letZ (FromE.fn l5_1 (List.take (Int.toNat n8_1) r1_1) (c2x0_1, List.take (Int.toNat (↑(List.length c0x4_1) : Int)) r3_1, List.take (Int.toNat (↑(List.length c0x5_1) : Int)) r4_1)) fun z__1 =>
 (if Option.isNone z__1.1 = Bool.true then (if FromR.pre c0x0_1 c0x1_1 (c0x3_1, c0x4_1, c0x5_1) = Bool.true then (letZ (FromR.fn c0x0_1 c0x1_1 (c0x3_1, c0x4_1, c0x5_1)) fun z__2 =>
 (if Option.isNone z__2.1 = Bool.true then (if (0 : Int) ≤ n8_1 then (if n8_1 ≤ (↑(List.length r1_1) : Int) then (if SameIntsH.pre (List.take (Int.toNat n8_1) r1_1) c0x1_1 = Bool.true then (if (SameIntsH.fn (List.take (Int.toNat n8_1) r1_1) c0x1_1).1 = Bool.true then (if (0 : Int) ≤ n8_1 then (if n8_1 < (↑(List.length r1_1) : Int) then (if (List.getD r1_1 (Int.toNat n8_1) (0 : Int) == (201 : Int)) = Bool.true then (if SameCheck.pre (c2x0_1, List.take (Int.toNat (↑(List.length c0x4_1) : Int)) r3_1, List.take (Int.toNat (↑(List.length c0x5_1) : Int)) r4_1) (c0x3_1, c0x4_1, c0x5_1) = Bool.true then (if (SameCheck.fn (c2x0_1, List.take (Int.toNat (↑(List.length c0x4_1) : Int)) r3_1, List.take (Int.toNat (↑(List.length c0x5_1) : Int)) r4_1) (c0x3_1, c0x4_1, c0x5_1)).1 = Bool.true then (if (↑(List.length c0x4_1) : Int) < (↑(List.length r3_1) : Int) then (match F21 (z__1.2.1) (z__2.2.1) (List.getD r3_1 (Int.toNat (↑(List.length c0x4_1) : Int)) (0 : Int) == (202 : Int)) ((0 : Int)) (r1_1) (c2x0_1) (r3_1) (r4_1) with
  | some (((f12_4, g14_4, same15_4, _), ((c0x0_4, _), r1_4, r2_4, _))) => (match F25 (f12_4) (g14_4) (same15_4) ((0 : Int)) (c0x0_4) (r1_4) (r2_4) with
  | some (((f12_5, g14_5, same15_5, _), ((c0x0_5, _), r1_5, r2_5, _))) => (match F29 (f12_5) (g14_5) (same15_5) ((0 : Int)) (c0x0_5) (r1_5) (r2_5) with
  | some (((f12_6, g14_6, same15_6, _), _)) => (if same15_6 = Bool.true then (if num17.pre f12_6 = Bool.true then (if ((num17.fn f12_6).1 == g14_6) = Bool.true then some (Option.none, Option.none, Bool.true == Bool.true, ())
 else none)
 else none)
 else none)
  | none => none)
  | none => none)
  | none => none)
 else none)
 else none)
 else none)
 else none)
 else none)
 else none)
 else none)
 else none)
 else none)
 else none)
 else (if (0 : Int) ≤ n8_1 then (if n8_1 ≤ (↑(List.length r1_1) : Int) then (if SameIntsH.pre (List.take (Int.toNat n8_1) r1_1) c0x1_1 = Bool.true then (if (SameIntsH.fn (List.take (Int.toNat n8_1) r1_1) c0x1_1).1 = Bool.true then (if (0 : Int) ≤ n8_1 then (if n8_1 < (↑(List.length r1_1) : Int) then (if (List.getD r1_1 (Int.toNat n8_1) (0 : Int) == (201 : Int)) = Bool.true then (if SameCheck.pre (c2x0_1, List.take (Int.toNat (↑(List.length c0x4_1) : Int)) r3_1, List.take (Int.toNat (↑(List.length c0x5_1) : Int)) r4_1) (c0x3_1, c0x4_1, c0x5_1) = Bool.true then (if (SameCheck.fn (c2x0_1, List.take (Int.toNat (↑(List.length c0x4_1) : Int)) r3_1, List.take (Int.toNat (↑(List.length c0x5_1) : Int)) r4_1) (c0x3_1, c0x4_1, c0x5_1)).1 = Bool.true then (if (↑(List.length c0x4_1) : Int) < (↑(List.length r3_1) : Int) then none
 else none)
 else none)
 else none)
 else none)
 else none)
 else none)
 else none)
 else none)
 else none)
 else none)))
 else none)
 else (if FromR.pre c0x0_1 c0x1_1 (c0x3_1, c0x4_1, c0x5_1) = Bool.true then (letZ (FromR.fn c0x0_1 c0x1_1 (c0x3_1, c0x4_1, c0x5_1)) fun z__6 =>
 (if Option.isNone z__6.1 = Bool.true then (if (0 : Int) ≤ n8_1 then (if n8_1 ≤ (↑(List.length r1_1) : Int) then (if SameIntsH.pre (List.take (Int.toNat n8_1) r1_1) c0x1_1 = Bool.true then (if (SameIntsH.fn (List.take (Int.toNat n8_1) r1_1) c0x1_1).1 = Bool.true then (if (0 : Int) ≤ n8_1 then (if n8_1 < (↑(List.length r1_1) : Int) then (if (List.getD r1_1 (Int.toNat n8_1) (0 : Int) == (201 : Int)) = Bool.true then (if SameCheck.pre (c2x0_1, List.take (Int.toNat (↑(List.length c0x4_1) : Int)) r3_1, List.take (Int.toNat (↑(List.length c0x5_1) : Int)) r4_1) (c0x3_1, c0x4_1, c0x5_1) = Bool.true then (if (SameCheck.fn (c2x0_1, List.take (Int.toNat (↑(List.length c0x4_1) : Int)) r3_1, List.take (Int.toNat (↑(List.length c0x5_1) : Int)) r4_1) (c0x3_1, c0x4_1, c0x5_1)).1 = Bool.true then (if (↑(List.length c0x4_1) : Int) < (↑(List.length r3_1) : Int) then none
 else none)
 else none)
 else none)
 else none)
 else none)
 else none)
 else none)
 else none)
 else none)
 else none)
 else (if (0 : Int) ≤ n8_1 then (if n8_1 ≤ (↑(List.length r1_1) : Int) then (if SameIntsH.pre (List.take (Int.toNat n8_1) r1_1) c0x1_1 = Bool.true then (if (SameIntsH.fn (List.take (Int.toNat n8_1) r1_1) c0x1_1).1 = Bool.true then (if (0 : Int) ≤ n8_1 then (if n8_1 < (↑(List.length r1_1) : Int) then (if (List.getD r1_1 (Int.toNat n8_1) (0 : Int) == (201 : Int)) = Bool.true then (if SameCheck.pre (c2x0_1, List.take (Int.toNat (↑(List.length c0x4_1) : Int)) r3_1, List.take (Int.toNat (↑(List.length c0x5_1) : Int)) r4_1) (c0x3_1, c0x4_1, c0x5_1) = Bool.true then (if (SameCheck.fn (c2x0_1, List.take (Int.toNat (↑(List.length c0x4_1) : Int)) r3_1, List.take (Int.toNat (↑(List.length c0x5_1) : Int)) r4_1) (c0x3_1, c0x4_1, c0x5_1)).1 = Bool.true then (if (↑(List.length c0x4_1) : Int) < (↑(List.length r3_1) : Int) then (match F21v1 (z__1.2.1) (z__6.2.1) (List.getD r3_1 (Int.toNat (↑(List.length c0x4_1) : Int)) (0 : Int) == (202 : Int)) ((0 : Int)) (r1_1) (c2x0_1) ((Option.getD z__1.1 (Option.none, [], [], [], (0 : Int), Bool.false, (0 : Int), (0 : Int), [], Bool.false)).1) ((Option.getD z__1.1 (Option.none, [], [], [], (0 : Int), Bool.false, (0 : Int), (0 : Int), [], Bool.false)).2.2.2.2.1) ((Option.getD z__1.1 (Option.none, [], [], [], (0 : Int), Bool.false, (0 : Int), (0 : Int), [], Bool.false)).2.2.2.2.2.1) ((Option.getD z__1.1 (Option.none, [], [], [], (0 : Int), Bool.false, (0 : Int), (0 : Int), [], Bool.false)).2.2.2.2.2.2.1) ((Option.getD z__1.1 (Option.none, [], [], [], (0 : Int), Bool.false, (0 : Int), (0 : Int), [], Bool.false)).2.2.2.2.2.2.2.1) ((Option.getD z__6.1 ([], [], [], [], (0 : Int), Bool.false, (0 : Int), (0 : Int), Bool.false)).1) ((Option.getD z__6.1 ([], [], [], [], (0 : Int), Bool.false, (0 : Int), (0 : Int), Bool.false)).2.2.2.2.1) ((Option.getD z__6.1 ([], [], [], [], (0 : Int), Bool.false, (0 : Int), (0 : Int), Bool.false)).2.2.2.2.2.1) ((Option.getD z__6.1 ([], [], [], [], (0 : Int), Bool.false, (0 : Int), (0 : Int), Bool.false)).2.2.2.2.2.2.1) ((Option.getD z__6.1 ([], [], [], [], (0 : Int), Bool.false, (0 : Int), (0 : Int), Bool.false)).2.2.2.2.2.2.2.1) (r3_1) (r4_1) ((Option.getD z__1.1 (Option.none, [], [], [], (0 : Int), Bool.false, (0 : Int), (0 : Int), [], Bool.false)).2.1) ((Option.getD z__1.1 (Option.none, [], [], [], (0 : Int), Bool.false, (0 : Int), (0 : Int), [], Bool.false)).2.2.1) ((Option.getD z__1.1 (Option.none, [], [], [], (0 : Int), Bool.false, (0 : Int), (0 : Int), [], Bool.false)).2.2.2.1) ((Option.getD z__1.1 (Option.none, [], [], [], (0 : Int), Bool.false, (0 : Int), (0 : Int), [], Bool.false)).2.2.2.2.2.2.2.2.1) ((Option.getD z__6.1 ([], [], [], [], (0 : Int), Bool.false, (0 : Int), (0 : Int), Bool.false)).2.1) ((Option.getD z__6.1 ([], [], [], [], (0 : Int), Bool.false, (0 : Int), (0 : Int), Bool.false)).2.2.1) ((Option.getD z__6.1 ([], [], [], [], (0 : Int), Bool.false, (0 : Int), (0 : Int), Bool.false)).2.2.2.1) with
  | some (((f12_8, g14_8, same15_8, _), ((c0x0_8, _), (c1x0_8, c1x4_8, c1x5_8, c1x6_8, c1x7_8, _), (c2x0_8, c2x4_8, c2x5_8, c2x6_8, c2x7_8, _), r3_8, r4_8, r5_8, r6_8, r7_8, r8_8, r9_8, r10_8, r11_8, _))) => (match F25v1 (f12_8) (g14_8) (same15_8) ((0 : Int)) (c0x0_8) (c1x0_8) (c1x4_8) (c1x5_8) (c1x6_8) (c1x7_8) (c2x0_8) (c2x4_8) (c2x5_8) (c2x6_8) (c2x7_8) (r3_8) (r4_8) (r5_8) (r6_8) (r7_8) (r8_8) (r9_8) (r10_8) (r11_8) with
  | some (((f12_9, g14_9, same15_9, _), ((c0x0_9, _), (c1x0_9, c1x4_9, c1x5_9, c1x6_9, c1x7_9, _), (c2x0_9, c2x4_9, c2x5_9, c2x6_9, c2x7_9, _), r3_9, r4_9, r5_9, r6_9, r7_9, r8_9, r9_9, r10_9, r11_9, _))) => (match F29v1 (f12_9) (g14_9) (same15_9) ((0 : Int)) (c0x0_9) (c1x0_9) (c1x4_9) (c1x5_9) (c1x6_9) (c1x7_9) (c2x0_9) (c2x4_9) (c2x5_9) (c2x6_9) (c2x7_9) (r3_9) (r4_9) (r5_9) (r6_9) (r7_9) (r8_9) (r9_9) (r10_9) (r11_9) with
  | some (((f12_10, g14_10, same15_10, _), ((c0x0_10, c0x4_10, c0x5_10, c0x6_10, c0x7_10, _), (c1x0_10, c1x4_10, c1x5_10, c1x6_10, c1x7_10, _), r2_10, r3_10, r4_10, r5_10, r6_10, r7_10, r8_10, _))) => (if same15_10 = Bool.true then (if num17.pre f12_10 = Bool.true then (if ((num17.fn f12_10).1 == g14_10) = Bool.true then some (Option.some (c0x0_10, r2_10, r3_10, r4_10, c0x4_10, c0x5_10, c0x6_10, c0x7_10, r5_10, Bool.false), Option.some (c1x0_10, r6_10, r7_10, r8_10, c1x4_10, c1x5_10, c1x6_10, c1x7_10, Bool.false), Bool.false == Bool.false, ())
 else none)
 else none)
 else none)
  | none => none)
  | none => none)
  | none => none)
 else none)
 else none)
 else none)
 else none)
 else none)
 else none)
 else none)
 else none)
 else none)
 else none)))
 else none)))
 else none)
 else none)
 else none)
 else (if (0 : Int) ≤ n8_1 then (if n8_1 ≤ (↑(List.length r1_1) : Int) then (if NewE.pre l5_1 (List.take (Int.toNat n8_1) r1_1) = Bool.true then (letZ (NewE.fn l5_1 (List.take (Int.toNat n8_1) r1_1)) fun z__10 =>
 (if Option.isNone z__10.1 = Bool.true then (if NewR.pre c0x0_1 c0x1_1 = Bool.true then (letZ (NewR.fn c0x0_1 c0x1_1) fun z__11 =>
 (if Option.isNone z__11.1 = Bool.true then (if (0 : Int) ≤ n8_1 then (if n8_1 ≤ (↑(List.length r1_1) : Int) then (if SameIntsH.pre (List.take (Int.toNat n8_1) r1_1) c0x1_1 = Bool.true then (if (SameIntsH.fn (List.take (Int.toNat n8_1) r1_1) c0x1_1).1 = Bool.true then (if (0 : Int) ≤ n8_1 then (if n8_1 < (↑(List.length r1_1) : Int) then (if (List.getD r1_1 (Int.toNat n8_1) (0 : Int) == (201 : Int)) = Bool.true then (if SameCheck.pre (c2x0_1, List.take (Int.toNat (↑(List.length c0x4_1) : Int)) r3_1, List.take (Int.toNat (↑(List.length c0x5_1) : Int)) r4_1) (c0x3_1, c0x4_1, c0x5_1) = Bool.true then (if (SameCheck.fn (c2x0_1, List.take (Int.toNat (↑(List.length c0x4_1) : Int)) r3_1, List.take (Int.toNat (↑(List.length c0x5_1) : Int)) r4_1) (c0x3_1, c0x4_1, c0x5_1)).1 = Bool.true then (if (↑(List.length c0x4_1) : Int) < (↑(List.length r3_1) : Int) then (match F21 (z__10.2.1) (z__11.2.1) (List.getD r3_1 (Int.toNat (↑(List.length c0x4_1) : Int)) (0 : Int) == (202 : Int)) ((0 : Int)) (r1_1) (c2x0_1) (r3_1) (r4_1) with
  | some (((f12_13, g14_13, same15_13, _), ((c0x0_13, _), r1_13, r2_13, _))) => (match F25 (f12_13) (g14_13) (same15_13) ((0 : Int)) (c0x0_13) (r1_13) (r2_13) with
  | some (((f12_14, g14_14, same15_14, _), ((c0x0_14, _), r1_14, r2_14, _))) => (match F29 (f12_14) (g14_14) (same15_14) ((0 : Int)) (c0x0_14) (r1_14) (r2_14) with
  | some (((f12_15, g14_15, same15_15, _), _)) => (if same15_15 = Bool.true then (if num17.pre f12_15 = Bool.true then (if ((num17.fn f12_15).1 == g14_15) = Bool.true then some (Option.none, Option.none, Bool.true == Bool.true, ())
 else none)
 else none)
 else none)
  | none => none)
  | none => none)
  | none => none)
 else none)
 else none)
 else none)
 else none)
 else none)
 else none)
 else none)
 else none)
 else none)
 else none)
 else (if (0 : Int) ≤ n8_1 then (if n8_1 ≤ (↑(List.length r1_1) : Int) then (if SameIntsH.pre (List.take (Int.toNat n8_1) r1_1) c0x1_1 = Bool.true then (if (SameIntsH.fn (List.take (Int.toNat n8_1) r1_1) c0x1_1).1 = Bool.true then (if (0 : Int) ≤ n8_1 then (if n8_1 < (↑(List.length r1_1) : Int) then (if (List.getD r1_1 (Int.toNat n8_1) (0 : Int) == (201 : Int)) = Bool.true then (if SameCheck.pre (c2x0_1, List.take (Int.toNat (↑(List.length c0x4_1) : Int)) r3_1, List.take (Int.toNat (↑(List.length c0x5_1) : Int)) r4_1) (c0x3_1, c0x4_1, c0x5_1) = Bool.true then (if (SameCheck.fn (c2x0_1, List.take (Int.toNat (↑(List.length c0x4_1) : Int)) r3_1, List.take (Int.toNat (↑(List.length c0x5_1) : Int)) r4_1) (c0x3_1, c0x4_1, c0x5_1)).1 = Bool.true then (if (↑(List.length c0x4_1) : Int) < (↑(List.length r3_1) : Int) then none
 else none)
 else none)
 else none)
 else none)
 else none)
 else none)
 else none)
 else none)
 else none)
 else none)))
 else none)
 else (if NewR.pre c0x0_1 c0x1_1 = Bool.true then (letZ (NewR.fn c0x0_1 c0x1_1) fun z__15 =>
 (if Option.isNone z__15.1 = Bool.true then (if (0 : Int) ≤ n8_1 then (if n8_1 ≤ (↑(List.length r1_1) : Int) then (if SameIntsH.pre (List.take (Int.toNat n8_1) r1_1) c0x1_1 = Bool.true then (if (SameIntsH.fn (List.take (Int.toNat n8_1) r1_1) c0x1_1).1 = Bool.true then (if (0 : Int) ≤ n8_1 then (if n8_1 < (↑(List.length r1_1) : Int) then (if (List.getD r1_1 (Int.toNat n8_1) (0 : Int) == (201 : Int)) = Bool.true then (if SameCheck.pre (c2x0_1, List.take (Int.toNat (↑(List.length c0x4_1) : Int)) r3_1, List.take (Int.toNat (↑(List.length c0x5_1) : Int)) r4_1) (c0x3_1, c0x4_1, c0x5_1) = Bool.true then (if (SameCheck.fn (c2x0_1, List.take (Int.toNat (↑(List.length c0x4_1) : Int)) r3_1, List.take (Int.toNat (↑(List.length c0x5_1) : Int)) r4_1) (c0x3_1, c0x4_1, c0x5_1)).1 = Bool.true then (if (↑(List.length c0x4_1) : Int) < (↑(List.length r3_1) : Int) then none
 else none)
 else none)
 else none)
 else none)
 else none)
 else none)
 else none)
 else none)
 else none)
 else none)
 else (if (0 : Int) ≤ n8_1 then (if n8_1 ≤ (↑(List.length r1_1) : Int) then (if SameIntsH.pre (List.take (Int.toNat n8_1) r1_1) c0x1_1 = Bool.true then (if (SameIntsH.fn (List.take (Int.toNat n8_1) r1_1) c0x1_1).1 = Bool.true then (if (0 : Int) ≤ n8_1 then (if n8_1 < (↑(List.length r1_1) : Int) then (if (List.getD r1_1 (Int.toNat n8_1) (0 : Int) == (201 : Int)) = Bool.true then (if SameCheck.pre (c2x0_1, List.take (Int.toNat (↑(List.length c0x4_1) : Int)) r3_1, List.take (Int.toNat (↑(List.length c0x5_1) : Int)) r4_1) (c0x3_1, c0x4_1, c0x5_1) = Bool.true then (if (SameCheck.fn (c2x0_1, List.take (Int.toNat (↑(List.length c0x4_1) : Int)) r3_1, List.take (Int.toNat (↑(List.length c0x5_1) : Int)) r4_1) (c0x3_1, c0x4_1, c0x5_1)).1 = Bool.true then (if (↑(List.length c0x4_1) : Int) < (↑(List.length r3_1) : Int) then (match F21v1 (z__10.2.1) (z__15.2.1) (List.getD r3_1 (Int.toNat (↑(List.length c0x4_1) : Int)) (0 : Int) == (202 : Int)) ((0 : Int)) (r1_1) (c2x0_1) ((Option.getD z__10.1 (Option.none, [], [], [], (0 : Int), Bool.false, (0 : Int), (0 : Int), [], Bool.false)).1) ((Option.getD z__10.1 (Option.none, [], [], [], (0 : Int), Bool.false, (0 : Int), (0 : Int), [], Bool.false)).2.2.2.2.1) ((Option.getD z__10.1 (Option.none, [], [], [], (0 : Int), Bool.false, (0 : Int), (0 : Int), [], Bool.false)).2.2.2.2.2.1) ((Option.getD z__10.1 (Option.none, [], [], [], (0 : Int), Bool.false, (0 : Int), (0 : Int), [], Bool.false)).2.2.2.2.2.2.1) ((Option.getD z__10.1 (Option.none, [], [], [], (0 : Int), Bool.false, (0 : Int), (0 : Int), [], Bool.false)).2.2.2.2.2.2.2.1) ((Option.getD z__15.1 ([], [], [], [], (0 : Int), Bool.false, (0 : Int), (0 : Int), Bool.false)).1) ((Option.getD z__15.1 ([], [], [], [], (0 : Int), Bool.false, (0 : Int), (0 : Int), Bool.false)).2.2.2.2.1) ((Option.getD z__15.1 ([], [], [], [], (0 : Int), Bool.false, (0 : Int), (0 : Int), Bool.false)).2.2.2.2.2.1) ((Option.getD z__15.1 ([], [], [], [], (0 : Int), Bool.false, (0 : Int), (0 : Int), Bool.false)).2.2.2.2.2.2.1) ((Option.getD z__15.1 ([], [], [], [], (0 : Int), Bool.false, (0 : Int), (0 : Int), Bool.false)).2.2.2.2.2.2.2.1) (r3_1) (r4_1) ((Option.getD z__10.1 (Option.none, [], [], [], (0 : Int), Bool.false, (0 : Int), (0 : Int), [], Bool.false)).2.1) ((Option.getD z__10.1 (Option.none, [], [], [], (0 : Int), Bool.false, (0 : Int), (0 : Int), [], Bool.false)).2.2.1) ((Option.getD z__10.1 (Option.none, [], [], [], (0 : Int), Bool.false, (0 : Int), (0 : Int), [], Bool.false)).2.2.2.1) ((Option.getD z__10.1 (Option.none, [], [], [], (0 : Int), Bool.false, (0 : Int), (0 : Int), [], Bool.false)).2.2.2.2.2.2.2.2.1) ((Option.getD z__15.1 ([], [], [], [], (0 : Int), Bool.false, (0 : Int), (0 : Int), Bool.false)).2.1) ((Option.getD z__15.1 ([], [], [], [], (0 : Int), Bool.false, (0 : Int), (0 : Int), Bool.false)).2.2.1) ((Option.getD z__15.1 ([], [], [], [], (0 : Int), Bool.false, (0 : Int), (0 : Int), Bool.false)).2.2.2.1) with
  | some (((f12_17, g14_17, same15_17, _), ((c0x0_17, _), (c1x0_17, c1x4_17, c1x5_17, c1x6_17, c1x7_17, _), (c2x0_17, c2x4_17, c2x5_17, c2x6_17, c2x7_17, _), r3_17, r4_17, r5_17, r6_17, r7_17, r8_17, r9_17, r10_17, r11_17, _))) => (match F25v1 (f12_17) (g14_17) (same15_17) ((0 : Int)) (c0x0_17) (c1x0_17) (c1x4_17) (c1x5_17) (c1x6_17) (c1x7_17) (c2x0_17) (c2x4_17) (c2x5_17) (c2x6_17) (c2x7_17) (r3_17) (r4_17) (r5_17) (r6_17) (r7_17) (r8_17) (r9_17) (r10_17) (r11_17) with
  | some (((f12_18, g14_18, same15_18, _), ((c0x0_18, _), (c1x0_18, c1x4_18, c1x5_18, c1x6_18, c1x7_18, _), (c2x0_18, c2x4_18, c2x5_18, c2x6_18, c2x7_18, _), r3_18, r4_18, r5_18, r6_18, r7_18, r8_18, r9_18, r10_18, r11_18, _))) => (match F29v1 (f12_18) (g14_18) (same15_18) ((0 : Int)) (c0x0_18) (c1x0_18) (c1x4_18) (c1x5_18) (c1x6_18) (c1x7_18) (c2x0_18) (c2x4_18) (c2x5_18) (c2x6_18) (c2x7_18) (r3_18) (r4_18) (r5_18) (r6_18) (r7_18) (r8_18) (r9_18) (r10_18) (r11_18) with
  | some (((f12_19, g14_19, same15_19, _), ((c0x0_19, c0x4_19, c0x5_19, c0x6_19, c0x7_19, _), (c1x0_19, c1x4_19, c1x5_19, c1x6_19, c1x7_19, _), r2_19, r3_19, r4_19, r5_19, r6_19, r7_19, r8_19, _))) => (if same15_19 = Bool.true then (if num17.pre f12_19 = Bool.true then (if ((num17.fn f12_19).1 == g14_19) = Bool.true then some (Option.some (c0x0_19, r2_19, r3_19, r4_19, c0x4_19, c0x5_19, c0x6_19, c0x7_19, r5_19, Bool.false), Option.some (c1x0_19, r6_19, r7_19, r8_19, c1x4_19, c1x5_19, c1x6_19, c1x7_19, Bool.false), Bool.false == Bool.false, ())
 else none)
 else none)
 else none)
  | none => none)
  | none => none)
  | none => none)
 else none)
 else none)
 else none)
 else none)
 else none)
 else none)
 else none)
 else none)
 else none)
 else none)))
 else none)))
 else none)
 else none)
 else none))
 else none)
 else none)
  | none => none)
 else none)
 else none))
 else none)
 else some (Option.none, Option.none, Bool.true, ()))
 else none)
 else none)
 else none)
noncomputable def run (d : Ds (List.map PM.ty ps)) : Option (Ds (muts ps ++ List.map PM.ty rs)) := match d with
  | (s0, _) => run' s0
theorem run_is : ∀ d, runF env 197 code [2, 3, 4] ps rs d = run d := fun d => by kernel_rfl
theorem loops : LoopsOk env code := loopsOk_ofV (l := [[true, true, true, true, true, true, true, true, true, true, true, true, true, true, true, false, true, false, false], [true, true, true, true, true, true, true, true, true, true, true, true, true, true, true, true, false, true, false, false], [true, true, true, true, true, true, true, true, true, true, true, true, true, true, true, true, true, false, true, false, false]]) (lr := [[true, true, true, true, true, false]]) (by kernel_rfl) (by kernel_rfl) (fun p hp => by
  simp only [List.mem_cons, List.not_mem_nil, or_false] at hp
  rcases hp with rfl | rfl | rfl
  · exact loopOk_lpV (lsi := [L21, L21v1]) (x := sub [true, true, true, true, true, true, true, true, true, true, true, true, true, true, true, false, true, false, false] code) rfl (fun L hL => by
      simp only [List.mem_cons, List.not_mem_nil, or_false] at hL
      rcases hL with rfl | rfl
      · exact ⟨by simp [L21], rd21, round21, ends21⟩
      · exact ⟨by simp [L21v1], rd21v1, round21v1, ends21v1⟩
      )
  · exact loopOk_lpV (lsi := [L25, L25v1]) (x := sub [true, true, true, true, true, true, true, true, true, true, true, true, true, true, true, true, false, true, false, false] code) rfl (fun L hL => by
      simp only [List.mem_cons, List.not_mem_nil, or_false] at hL
      rcases hL with rfl | rfl
      · exact ⟨by simp [L25], rd25, round25, ends25⟩
      · exact ⟨by simp [L25v1], rd25v1, round25v1, ends25v1⟩
      )
  · exact loopOk_lpV (lsi := [L29, L29v1]) (x := sub [true, true, true, true, true, true, true, true, true, true, true, true, true, true, true, true, true, false, true, false, false] code) rfl (fun L hL => by
      simp only [List.mem_cons, List.not_mem_nil, or_false] at hL
      rcases hL with rfl | rfl
      · exact ⟨by simp [L29], rd29, round29, ends29⟩
      · exact ⟨by simp [L29v1], rd29v1, round29v1, ends29v1⟩
      )
  )
 (fun p hp => by
  simp only [List.mem_cons, List.not_mem_nil, or_false] at hp
  rcases hp with rfl
  · exact regOk_lpV (lsi := [Lr6]) (x := sub [true, true, true, true, true, false] code) (by kernel_rfl) rfl (fun L hL => by
      simp only [List.mem_cons, List.not_mem_nil, or_false] at hL
      rcases hL with rfl
      · refine ⟨by simp [Lr6], fun v z hz => ?_⟩
        obtain ⟨⟨l5, n8, _⟩, ⟨⟨c0x0, c0x1, c0x2, c0x3, c0x4, c0x5, _⟩, r1, _⟩⟩ := v
        have hz := (show FGr6 l5 n8 c0x0 c0x1 c0x2 c0x3 c0x4 c0x5 r1 = some z from hz)
        unfold FGr6 at hz
        split at hz
        case isFalse => cases hz
        rename_i c0_
        split at hz
        case isFalse => cases hz
        rename_i c1_
        split at hz
        case isFalse => cases hz
        rename_i c2_
        split at hz
        case isFalse => cases hz
        rename_i c3_
        injection hz with hz
        subst hz
        have hC : Cr6 ((l5, n8, ()), ((c0x0, c0x1, c0x2, c0x3, c0x4, c0x5, ()), r1, ())) := ⟨c0_, c1_, c2_, c3_, trivial⟩
        exact ⟨mk 0, S0 ((l5, n8, ()), ((c0x0, c0x1, c0x2, c0x3, c0x4, c0x5, ()), r1, ())), S132 ((l5, n8, ()), ((c0x0, c0x1, c0x2, c0x3, c0x4, c0x5, ()), r1, ())), rfl, by kernel_rfl, by kernel_rfl, by kernel_rfl, D0 ((l5, n8, ()), ((c0x0, c0x1, c0x2, c0x3, c0x4, c0x5, ()), r1, ())) hC⟩
      )
  )
noncomputable def pre (s0 : ((List Int) × ((List Int) × (Bool × (Int × ((List Int) × (List Bool))))))) : Bool := (run' s0).isSome
noncomputable def fn (s0 : ((List Int) × ((List Int) × (Bool × (Int × ((List Int) × (List Bool))))))) : D := match run' s0 with
  | some x => x
  | none => default
noncomputable def sig : Sig := ⟨ps, rs, fun d => match d with
  | (s0, _) => pre s0, fun d => match d with
  | (s0, _) => fn s0, false⟩
theorem run_fn (s0 : ((List Int) × ((List Int) × (Bool × (Int × ((List Int) × (List Bool))))))) (h : pre s0 = true) : run' s0 = some (fn s0) := by
  unfold pre at h
  unfold fn
  cases e : run' s0 with
  | some x => rfl
  | none => rw [e] at h; cases h
theorem is_fn (s0 : ((List Int) × ((List Int) × (Bool × (Int × ((List Int) × (List Bool))))))) {x : D} (h : run' s0 = some x) : pre s0 = true ∧ fn s0 = x := by
  unfold pre fn
  rw [h]
  exact ⟨rfl, rfl⟩
theorem sound {ρ : Obs} (hE : EnvOk Go.Proofs.Tryd.prog ρ env) : Sound Go.Proofs.Tryd.prog ρ 11 sig := sound_of (fn := Go.Proofs.Tryd.f11) (c := code) (res := [2, 3, 4]) hE (by kernel_rfl) (by kernel_rfl) (by kernel_rfl) (by kernel_rfl) (by kernel_rfl) loops rfl (show 1 ≤ 197 by decide) (fun d hd => (run_is d).trans (by
  obtain ⟨s0, _⟩ := d
  exact run_fn s0 hd))
theorem enters : Enters Go.Proofs.Tryd.prog 11 := enters_of (fn := Go.Proofs.Tryd.f11) (by kernel_rfl) (by kernel_rfl) (by kernel_rfl)
theorem ok {ρ : Obs} (h : ∀ p ∈ ([(41, end17.sig), (24, IntsO.sig), (42, BoolsO.sig), (39, layNew.sig), (16, num17.sig), (14, NewE.sig), (34, FromE.sig), (44, NewR.sig), (43, FromR.sig), (21, SameIntsH.sig), (45, SameCheck.sig)] : List (FuncId × Sig)), Enters Go.Proofs.Tryd.prog p.1 ∧ Sound Go.Proofs.Tryd.prog ρ p.1 p.2) : Enters Go.Proofs.Tryd.prog 11 ∧ Sound Go.Proofs.Tryd.prog ρ 11 sig := ⟨enters, sound (envOk_ofV tabDOk h)⟩
theorem okR : Enters Go.Proofs.Tryd.prog 11 ∧ Sound Go.Proofs.Tryd.prog rho 11 sig := ok (fun p hp => by
  simp only [List.mem_cons, List.not_mem_nil, or_false] at hp
  rcases hp with rfl | rfl | rfl | rfl | rfl | rfl | rfl | rfl | rfl | rfl | rfl
  · exact end17.okR
  · exact IntsO.okR
  · exact BoolsO.okR
  · exact layNew.okR
  · exact num17.okR
  · exact NewE.okR
  · exact FromE.okR
  · exact NewR.okR
  · exact FromR.okR
  · exact SameIntsH.okR
  · exact SameCheck.okR)
end begin17
namespace EstBegins
abbrev ps : List PM := [.val Sa]
abbrev rs : List PM := [.val .bool]
noncomputable abbrev code : Code := (Go.Proofs.Tryd.f3.body.getD .skip)
noncomputable def env : Env := mkEnv tabD [(9, first17.sig), (10, few.sig), (11, begin17.sig), (12, tells.sig)] 0 [] []
abbrev D : Type := (Bool × Unit)
noncomputable def run' (s0 : ((List Int) × ((List Int) × (Bool × (Int × ((List Int) × (List Bool))))))) : Option D := (if first17.pre = Bool.true then (if few.pre (s0.1, s0.2.1, s0.2.2.1, s0.2.2.2.1, s0.2.2.2.2.1, s0.2.2.2.2.2) = Bool.true then (if (!first17.fn.1) = Bool.false then (if (!(few.fn (s0.1, s0.2.1, s0.2.2.1, s0.2.2.2.1, s0.2.2.2.2.1, s0.2.2.2.2.2)).1) = Bool.true then some (first17.fn.1, ())
 else (if begin17.pre (s0.1, s0.2.1, s0.2.2.1, s0.2.2.2.1, s0.2.2.2.2.1, s0.2.2.2.2.2) = Bool.true then (letZ (begin17.fn (s0.1, s0.2.1, s0.2.2.1, s0.2.2.2.1, s0.2.2.2.2.1, s0.2.2.2.2.2)) fun z_ =>
 (if Option.isNone z_.1 = Bool.true then (if Option.isNone z_.2.1 = Bool.true then some (z_.2.2.1, ())
 else some (z_.2.2.1, ()))
 else (if Option.isNone z_.2.1 = Bool.true then some (z_.2.2.1, ())
 else (if (!z_.2.2.1) = Bool.true then some (z_.2.2.1, ())
 else (if tells.pre (Option.getD z_.1 (Option.none, [], [], [], (0 : Int), Bool.false, (0 : Int), (0 : Int), [], Bool.false)).1 (Option.getD z_.1 (Option.none, [], [], [], (0 : Int), Bool.false, (0 : Int), (0 : Int), [], Bool.false)).2.1 (Option.getD z_.1 (Option.none, [], [], [], (0 : Int), Bool.false, (0 : Int), (0 : Int), [], Bool.false)).2.2.1 (Option.getD z_.1 (Option.none, [], [], [], (0 : Int), Bool.false, (0 : Int), (0 : Int), [], Bool.false)).2.2.2.1 (Option.getD z_.1 (Option.none, [], [], [], (0 : Int), Bool.false, (0 : Int), (0 : Int), [], Bool.false)).2.2.2.2.1 (Option.getD z_.1 (Option.none, [], [], [], (0 : Int), Bool.false, (0 : Int), (0 : Int), [], Bool.false)).2.2.2.2.2.1 (Option.getD z_.1 (Option.none, [], [], [], (0 : Int), Bool.false, (0 : Int), (0 : Int), [], Bool.false)).2.2.2.2.2.2.1 (Option.getD z_.1 (Option.none, [], [], [], (0 : Int), Bool.false, (0 : Int), (0 : Int), [], Bool.false)).2.2.2.2.2.2.2.1 (Option.getD z_.1 (Option.none, [], [], [], (0 : Int), Bool.false, (0 : Int), (0 : Int), [], Bool.false)).2.2.2.2.2.2.2.2.1 (Option.getD z_.2.1 ([], [], [], [], (0 : Int), Bool.false, (0 : Int), (0 : Int), Bool.false)).1 (Option.getD z_.2.1 ([], [], [], [], (0 : Int), Bool.false, (0 : Int), (0 : Int), Bool.false)).2.1 (Option.getD z_.2.1 ([], [], [], [], (0 : Int), Bool.false, (0 : Int), (0 : Int), Bool.false)).2.2.1 (Option.getD z_.2.1 ([], [], [], [], (0 : Int), Bool.false, (0 : Int), (0 : Int), Bool.false)).2.2.2.1 (Option.getD z_.2.1 ([], [], [], [], (0 : Int), Bool.false, (0 : Int), (0 : Int), Bool.false)).2.2.2.2.1 (Option.getD z_.2.1 ([], [], [], [], (0 : Int), Bool.false, (0 : Int), (0 : Int), Bool.false)).2.2.2.2.2.1 (Option.getD z_.2.1 ([], [], [], [], (0 : Int), Bool.false, (0 : Int), (0 : Int), Bool.false)).2.2.2.2.2.2.1 (Option.getD z_.2.1 ([], [], [], [], (0 : Int), Bool.false, (0 : Int), (0 : Int), Bool.false)).2.2.2.2.2.2.2.1 = Bool.true then (letZ (tells.fn (Option.getD z_.1 (Option.none, [], [], [], (0 : Int), Bool.false, (0 : Int), (0 : Int), [], Bool.false)).1 (Option.getD z_.1 (Option.none, [], [], [], (0 : Int), Bool.false, (0 : Int), (0 : Int), [], Bool.false)).2.1 (Option.getD z_.1 (Option.none, [], [], [], (0 : Int), Bool.false, (0 : Int), (0 : Int), [], Bool.false)).2.2.1 (Option.getD z_.1 (Option.none, [], [], [], (0 : Int), Bool.false, (0 : Int), (0 : Int), [], Bool.false)).2.2.2.1 (Option.getD z_.1 (Option.none, [], [], [], (0 : Int), Bool.false, (0 : Int), (0 : Int), [], Bool.false)).2.2.2.2.1 (Option.getD z_.1 (Option.none, [], [], [], (0 : Int), Bool.false, (0 : Int), (0 : Int), [], Bool.false)).2.2.2.2.2.1 (Option.getD z_.1 (Option.none, [], [], [], (0 : Int), Bool.false, (0 : Int), (0 : Int), [], Bool.false)).2.2.2.2.2.2.1 (Option.getD z_.1 (Option.none, [], [], [], (0 : Int), Bool.false, (0 : Int), (0 : Int), [], Bool.false)).2.2.2.2.2.2.2.1 (Option.getD z_.1 (Option.none, [], [], [], (0 : Int), Bool.false, (0 : Int), (0 : Int), [], Bool.false)).2.2.2.2.2.2.2.2.1 (Option.getD z_.2.1 ([], [], [], [], (0 : Int), Bool.false, (0 : Int), (0 : Int), Bool.false)).1 (Option.getD z_.2.1 ([], [], [], [], (0 : Int), Bool.false, (0 : Int), (0 : Int), Bool.false)).2.1 (Option.getD z_.2.1 ([], [], [], [], (0 : Int), Bool.false, (0 : Int), (0 : Int), Bool.false)).2.2.1 (Option.getD z_.2.1 ([], [], [], [], (0 : Int), Bool.false, (0 : Int), (0 : Int), Bool.false)).2.2.2.1 (Option.getD z_.2.1 ([], [], [], [], (0 : Int), Bool.false, (0 : Int), (0 : Int), Bool.false)).2.2.2.2.1 (Option.getD z_.2.1 ([], [], [], [], (0 : Int), Bool.false, (0 : Int), (0 : Int), Bool.false)).2.2.2.2.2.1 (Option.getD z_.2.1 ([], [], [], [], (0 : Int), Bool.false, (0 : Int), (0 : Int), Bool.false)).2.2.2.2.2.2.1 (Option.getD z_.2.1 ([], [], [], [], (0 : Int), Bool.false, (0 : Int), (0 : Int), Bool.false)).2.2.2.2.2.2.2.1) fun z__1 =>
 some (z__1.2.2.1, ()))
 else none)))))
 else none))
 else some (first17.fn.1, ()))
 else none)
 else none)
noncomputable def run (d : Ds (List.map PM.ty ps)) : Option (Ds (muts ps ++ List.map PM.ty rs)) := match d with
  | (s0, _) => run' s0
theorem run_is : ∀ d, runF env 38 code [2] ps rs d = run d := fun d => by kernel_rfl
theorem loops : LoopsOk env code := loopsOk_of (l := []) (by kernel_rfl) (fun p hp => by
  cases hp)
noncomputable def pre (s0 : ((List Int) × ((List Int) × (Bool × (Int × ((List Int) × (List Bool))))))) : Bool := (run' s0).isSome
noncomputable def fn (s0 : ((List Int) × ((List Int) × (Bool × (Int × ((List Int) × (List Bool))))))) : D := match run' s0 with
  | some x => x
  | none => default
noncomputable def sig : Sig := ⟨ps, rs, fun d => match d with
  | (s0, _) => pre s0, fun d => match d with
  | (s0, _) => fn s0, false⟩
theorem run_fn (s0 : ((List Int) × ((List Int) × (Bool × (Int × ((List Int) × (List Bool))))))) (h : pre s0 = true) : run' s0 = some (fn s0) := by
  unfold pre at h
  unfold fn
  cases e : run' s0 with
  | some x => rfl
  | none => rw [e] at h; cases h
theorem is_fn (s0 : ((List Int) × ((List Int) × (Bool × (Int × ((List Int) × (List Bool))))))) {x : D} (h : run' s0 = some x) : pre s0 = true ∧ fn s0 = x := by
  unfold pre fn
  rw [h]
  exact ⟨rfl, rfl⟩
theorem sound {ρ : Obs} (hE : EnvOk Go.Proofs.Tryd.prog ρ env) : Sound Go.Proofs.Tryd.prog ρ 3 sig := sound_of (fn := Go.Proofs.Tryd.f3) (c := code) (res := [2]) hE (by kernel_rfl) (by kernel_rfl) (by kernel_rfl) (by kernel_rfl) (by kernel_rfl) loops rfl (show 1 ≤ 38 by decide) (fun d hd => (run_is d).trans (by
  obtain ⟨s0, _⟩ := d
  exact run_fn s0 hd))
theorem enters : Enters Go.Proofs.Tryd.prog 3 := enters_of (fn := Go.Proofs.Tryd.f3) (by kernel_rfl) (by kernel_rfl) (by kernel_rfl)
theorem ok {ρ : Obs} (h : ∀ p ∈ ([(9, first17.sig), (10, few.sig), (11, begin17.sig), (12, tells.sig)] : List (FuncId × Sig)), Enters Go.Proofs.Tryd.prog p.1 ∧ Sound Go.Proofs.Tryd.prog ρ p.1 p.2) : Enters Go.Proofs.Tryd.prog 3 ∧ Sound Go.Proofs.Tryd.prog ρ 3 sig := ⟨enters, sound (envOk_of tabDOk h)⟩
theorem okR : Enters Go.Proofs.Tryd.prog 3 ∧ Sound Go.Proofs.Tryd.prog rho 3 sig := ok (fun p hp => by
  simp only [List.mem_cons, List.not_mem_nil, or_false] at hp
  rcases hp with rfl | rfl | rfl | rfl
  · exact first17.okR
  · exact few.okR
  · exact begin17.okR
  · exact tells.okR)
end EstBegins
end Go.Proofs.YthbojpaghbbnnaaDoor.Z
namespace Go.Proofs.YthbojpaghbbnnaaDoor.Z
open Go Go.RowKit
open Go.Proofs.YthbojpaghbbnnaaDoor.Esx
set_option linter.unusedVariables false
set_option linter.unusedSimpArgs false
theorem begin17.F21_ok {f12 g14 : Int} {same15 : Bool} {c1x0 : Int} {r2 : List Int} {r3 : List Bool} {r0 : List Int} (hl : r0.length ≤ 1000) : ∃ z, begin17.F21 f12 g14 same15 0 r0 c1x0 r2 r3 = some z ∧ z = ((f12, g14, same15, ()), ((c1x0, ()), r2, r3, ())) := by
  have key := begin17.F21_inv (f12 := f12) (g14 := g14) (same15 := same15) (c1x0 := c1x0) (r2 := r2) (r3 := r3) (fun i r => ∃ j : Nat, i = (j : Int) ∧ r.length = r0.length ∧ j ≤ r.length) (fun i r => r.length - i.toNat) (fun z => z = ((f12, g14, same15, ()), ((c1x0, ()), r2, r3, ()))) (fun i r hI => by
    obtain ⟨j, rfl, hr, hj⟩ := hI
    unfold begin17.R21
    refine led_dif (fun q1 => ?_) (fun q1 => led_x ?_)
    · have hw : IntKind.wrap .i64 ((j : Int) + 1) = (j : Int) + 1 := wr (by omega) (by omega)
      refine led_need (by omega) (led_need q1 (led_need (by rw [Int.toNat_natCast]; omega) ?_))
      rw [hw]
      exact led_k ⟨_, _, rfl, ⟨j + 1, by omega, by rw [List.length_set]; exact hr, by rw [List.length_set]; omega⟩, by rw [List.length_set]; omega⟩
    · exact rfl) 0 r0 ⟨0, rfl, rfl, by omega⟩
  exact key
theorem begin17.F25_ok {f12 g14 : Int} {same15 : Bool} {c0x0 : Int} {r2 : List Bool} {r1 : List Int} (hl : r1.length ≤ 1000) : ∃ z, begin17.F25 f12 g14 same15 0 c0x0 r1 r2 = some z ∧ ∃ r1', r1'.length = r1.length ∧ z = ((f12, g14, same15, ()), ((c0x0, ()), r1', r2, ())) := by
  have key := begin17.F25_inv (f12 := f12) (g14 := g14) (same15 := same15) (c0x0 := c0x0) (r2 := r2) (fun i r => ∃ j : Nat, i = (j : Int) ∧ r.length = r1.length ∧ j ≤ r.length) (fun i r => r.length - i.toNat) (fun z => ∃ r1', r1'.length = r1.length ∧ z = ((f12, g14, same15, ()), ((c0x0, ()), r1', r2, ()))) (fun i r hI => by
    obtain ⟨j, rfl, hr, hj⟩ := hI
    unfold begin17.R25
    refine led_dif (fun q1 => ?_) (fun q1 => led_x ?_)
    · have hw : IntKind.wrap .i64 ((j : Int) + 1) = (j : Int) + 1 := wr (by omega) (by omega)
      refine led_need (by omega) (led_need q1 (led_need (by rw [Int.toNat_natCast]; omega) ?_))
      rw [hw]
      exact led_k ⟨_, _, rfl, ⟨j + 1, by omega, by rw [List.length_set]; exact hr, by rw [List.length_set]; omega⟩, by rw [List.length_set]; omega⟩
    · exact ⟨_, hr, rfl⟩) 0 r1 ⟨0, rfl, rfl, by omega⟩
  exact key
theorem begin17.F29_ok {f12 g14 : Int} {same15 : Bool} {c0x0 : Int} {r1 : List Int} {r2 : List Bool} (hl : r2.length ≤ 1000) : ∃ z, begin17.F29 f12 g14 same15 0 c0x0 r1 r2 = some z ∧ z = ((f12, g14, same15, ()), ()) := by
  have key := begin17.F29_inv (f12 := f12) (g14 := g14) (same15 := same15) (c0x0 := c0x0) (r1 := r1) (fun i r => ∃ j : Nat, i = (j : Int) ∧ r.length = r2.length ∧ j ≤ r.length) (fun i r => r.length - i.toNat) (fun z => z = ((f12, g14, same15, ()), ())) (fun i r hI => by
    obtain ⟨j, rfl, hr, hj⟩ := hI
    unfold begin17.R29
    refine led_dif (fun q1 => ?_) (fun q1 => led_x ?_)
    · have hw : IntKind.wrap .i64 ((j : Int) + 1) = (j : Int) + 1 := wr (by omega) (by omega)
      refine led_need (by omega) (led_need q1 (led_need (by omega) (led_need q1 (led_need (by rw [Int.toNat_natCast]; omega) ?_))))
      rw [hw]
      exact led_k ⟨_, _, rfl, ⟨j + 1, by omega, by rw [List.length_set]; exact hr, by rw [List.length_set]; omega⟩, by rw [List.length_set]; omega⟩
    · exact rfl) 0 r2 ⟨0, rfl, rfl, by omega⟩
  exact key
theorem begin17.F21v1_ok {f12 g14 : Int} {same15 : Bool} {c1x0 : Int} {c2x0 : Option (List Int)} {c2x4 : Int} {c2x5 : Bool} {c2x6 c2x7 : Int} {c3x0 : List Int} {c3x4 : Int} {c3x5 : Bool} {c3x6 c3x7 : Int} {r4 : List Int} {r5 : List Bool} {r6 r7 r8 r9 r10 r11 : List Int} {r12 : List Bool} {r0 : List Int} (hl : r0.length ≤ 1000) : ∃ z, begin17.F21v1 f12 g14 same15 0 r0 c1x0 c2x0 c2x4 c2x5 c2x6 c2x7 c3x0 c3x4 c3x5 c3x6 c3x7 r4 r5 r6 r7 r8 r9 r10 r11 r12 = some z ∧ z = ((f12, g14, same15, ()), ((c1x0, ()), (c2x0, c2x4, c2x5, c2x6, c2x7, ()), (c3x0, c3x4, c3x5, c3x6, c3x7, ()), r4, r5, r6, r7, r8, r9, r10, r11, r12, ())) := by
  have key := begin17.F21v1_inv (f12 := f12) (g14 := g14) (same15 := same15) (c1x0 := c1x0) (c2x0 := c2x0) (c2x4 := c2x4) (c2x5 := c2x5) (c2x6 := c2x6) (c2x7 := c2x7) (c3x0 := c3x0) (c3x4 := c3x4) (c3x5 := c3x5) (c3x6 := c3x6) (c3x7 := c3x7) (r4 := r4) (r5 := r5) (r6 := r6) (r7 := r7) (r8 := r8) (r9 := r9) (r10 := r10) (r11 := r11) (r12 := r12) (fun i r => ∃ j : Nat, i = (j : Int) ∧ r.length = r0.length ∧ j ≤ r.length) (fun i r => r.length - i.toNat) (fun z => z = ((f12, g14, same15, ()), ((c1x0, ()), (c2x0, c2x4, c2x5, c2x6, c2x7, ()), (c3x0, c3x4, c3x5, c3x6, c3x7, ()), r4, r5, r6, r7, r8, r9, r10, r11, r12, ()))) (fun i r hI => by
    obtain ⟨j, rfl, hr, hj⟩ := hI
    unfold begin17.R21v1
    refine led_dif (fun q1 => ?_) (fun q1 => led_x ?_)
    · have hw : IntKind.wrap .i64 ((j : Int) + 1) = (j : Int) + 1 := wr (by omega) (by omega)
      refine led_need (by omega) (led_need q1 (led_need (by rw [Int.toNat_natCast]; omega) ?_))
      rw [hw]
      exact led_k ⟨_, _, rfl, ⟨j + 1, by omega, by rw [List.length_set]; exact hr, by rw [List.length_set]; omega⟩, by rw [List.length_set]; omega⟩
    · exact rfl) 0 r0 ⟨0, rfl, rfl, by omega⟩
  exact key
theorem begin17.F25v1_ok {f12 g14 : Int} {same15 : Bool} {c0x0 : Int} {c1x0 : Option (List Int)} {c1x4 : Int} {c1x5 : Bool} {c1x6 c1x7 : Int} {c2x0 : List Int} {c2x4 : Int} {c2x5 : Bool} {c2x6 c2x7 : Int} {r4 : List Bool} {r5 r6 r7 r8 r9 r10 : List Int} {r11 : List Bool} {r3 : List Int} (hl : r3.length ≤ 1000) : ∃ z, begin17.F25v1 f12 g14 same15 0 c0x0 c1x0 c1x4 c1x5 c1x6 c1x7 c2x0 c2x4 c2x5 c2x6 c2x7 r3 r4 r5 r6 r7 r8 r9 r10 r11 = some z ∧ ∃ r3', r3'.length = r3.length ∧ z = ((f12, g14, same15, ()), ((c0x0, ()), (c1x0, c1x4, c1x5, c1x6, c1x7, ()), (c2x0, c2x4, c2x5, c2x6, c2x7, ()), r3', r4, r5, r6, r7, r8, r9, r10, r11, ())) := by
  have key := begin17.F25v1_inv (f12 := f12) (g14 := g14) (same15 := same15) (c0x0 := c0x0) (c1x0 := c1x0) (c1x4 := c1x4) (c1x5 := c1x5) (c1x6 := c1x6) (c1x7 := c1x7) (c2x0 := c2x0) (c2x4 := c2x4) (c2x5 := c2x5) (c2x6 := c2x6) (c2x7 := c2x7) (r4 := r4) (r5 := r5) (r6 := r6) (r7 := r7) (r8 := r8) (r9 := r9) (r10 := r10) (r11 := r11) (fun i r => ∃ j : Nat, i = (j : Int) ∧ r.length = r3.length ∧ j ≤ r.length) (fun i r => r.length - i.toNat) (fun z => ∃ r3', r3'.length = r3.length ∧ z = ((f12, g14, same15, ()), ((c0x0, ()), (c1x0, c1x4, c1x5, c1x6, c1x7, ()), (c2x0, c2x4, c2x5, c2x6, c2x7, ()), r3', r4, r5, r6, r7, r8, r9, r10, r11, ()))) (fun i r hI => by
    obtain ⟨j, rfl, hr, hj⟩ := hI
    unfold begin17.R25v1
    refine led_dif (fun q1 => ?_) (fun q1 => led_x ?_)
    · have hw : IntKind.wrap .i64 ((j : Int) + 1) = (j : Int) + 1 := wr (by omega) (by omega)
      refine led_need (by omega) (led_need q1 (led_need (by rw [Int.toNat_natCast]; omega) ?_))
      rw [hw]
      exact led_k ⟨_, _, rfl, ⟨j + 1, by omega, by rw [List.length_set]; exact hr, by rw [List.length_set]; omega⟩, by rw [List.length_set]; omega⟩
    · exact ⟨_, hr, rfl⟩) 0 r3 ⟨0, rfl, rfl, by omega⟩
  exact key
theorem begin17.F29v1_ok {f12 g14 : Int} {same15 : Bool} {c0x0 : Int} {c1x0 : Option (List Int)} {c1x4 : Int} {c1x5 : Bool} {c1x6 c1x7 : Int} {c2x0 : List Int} {c2x4 : Int} {c2x5 : Bool} {c2x6 c2x7 : Int} {r3 r5 r6 r7 r8 r9 r10 : List Int} {r11 : List Bool} {r4 : List Bool} (hl : r4.length ≤ 1000) : ∃ z, begin17.F29v1 f12 g14 same15 0 c0x0 c1x0 c1x4 c1x5 c1x6 c1x7 c2x0 c2x4 c2x5 c2x6 c2x7 r3 r4 r5 r6 r7 r8 r9 r10 r11 = some z ∧ z = ((f12, g14, same15, ()), ((c1x0, c1x4, c1x5, c1x6, c1x7, ()), (c2x0, c2x4, c2x5, c2x6, c2x7, ()), r5, r6, r7, r8, r9, r10, r11, ())) := by
  have key := begin17.F29v1_inv (f12 := f12) (g14 := g14) (same15 := same15) (c0x0 := c0x0) (c1x0 := c1x0) (c1x4 := c1x4) (c1x5 := c1x5) (c1x6 := c1x6) (c1x7 := c1x7) (c2x0 := c2x0) (c2x4 := c2x4) (c2x5 := c2x5) (c2x6 := c2x6) (c2x7 := c2x7) (r3 := r3) (r5 := r5) (r6 := r6) (r7 := r7) (r8 := r8) (r9 := r9) (r10 := r10) (r11 := r11) (fun i r => ∃ j : Nat, i = (j : Int) ∧ r.length = r4.length ∧ j ≤ r.length) (fun i r => r.length - i.toNat) (fun z => z = ((f12, g14, same15, ()), ((c1x0, c1x4, c1x5, c1x6, c1x7, ()), (c2x0, c2x4, c2x5, c2x6, c2x7, ()), r5, r6, r7, r8, r9, r10, r11, ()))) (fun i r hI => by
    obtain ⟨j, rfl, hr, hj⟩ := hI
    unfold begin17.R29v1
    refine led_dif (fun q1 => ?_) (fun q1 => led_x ?_)
    · have hw : IntKind.wrap .i64 ((j : Int) + 1) = (j : Int) + 1 := wr (by omega) (by omega)
      refine led_need (by omega) (led_need q1 (led_need (by omega) (led_need q1 (led_need (by rw [Int.toNat_natCast]; omega) ?_))))
      rw [hw]
      exact led_k ⟨_, _, rfl, ⟨j + 1, by omega, by rw [List.length_set]; exact hr, by rw [List.length_set]; omega⟩, by rw [List.length_set]; omega⟩
    · exact rfl) 0 r4 ⟨0, rfl, rfl, by omega⟩
  exact key
/-- Two searches that tell the same. -/
def Alike17 (x : Option (Option (List Int) × List Int × List Int × List Int × Int × Bool × Int × Int × List Int × Bool)) (r : Option (List Int × List Int × List Int × List Bool × Int × Bool × Int × Int × Bool)) : Prop :=
  (x = none ∧ r = none) ∨ ∃ cs dg bd dr p, cs.length ≤ 65536 ∧ Wn cs.length dr ∧ In cs (bitAt dr) ∧ bd.length ≤ 1048576 ∧ x = some (some cs, dg, bd, dr, p, false, 0, -1, [], false) ∧ r = some (cs, dg, bd, flagsOf cs.length dr, p, false, 0, -1, false)
theorem begin17.is (cs dg : List Int) (fr : Bool) (p : Int) (es : List Int) (fl : List Bool) (h1 : cs.length ≤ 400) (h2 : dg.length ≤ 400) (h3 : es.length ≤ 400) (h4 : fl.length ≤ 400) :
    ∃ x r, Alike17 x r ∧ begin17.pre (cs, dg, fr, p, es, fl) = true ∧ begin17.fn (cs, dg, fr, p, es, fl) = (x, r, true, ()) := by
  refine (fun (h : ∃ x r, Alike17 x r ∧ begin17.run' (cs, dg, fr, p, es, fl) = some (x, r, true, ())) => by
    obtain ⟨x, r, h0, h⟩ := h
    exact ⟨x, r, h0, begin17.is_fn _ h⟩) ?_
  obtain ⟨a1, a2⟩ := end17.is (cs := cs) (by omega)
  obtain ⟨b1, b2⟩ := IntsO.ok (a := cs) (by omega)
  obtain ⟨c1, c2⟩ := layNew.all h1
  obtain ⟨d1, d2⟩ := IntsO.ok (a := dg) (by omega)
  obtain ⟨e1, e2⟩ := IntsO.ok (a := es) (by omega)
  obtain ⟨f1, f2⟩ := BoolsO.ok (a := fl) (by omega)
  have g1 : (dg.length + [(201 : Int)].length) * 8 ≤ 140737488355328 := by simp only [List.length_singleton]; omega
  have g2 : (es.length + [(202 : Int)].length) * 8 ≤ 140737488355328 := by simp only [List.length_singleton]; omega
  have g3 : (fl.length + [true].length) * 1 ≤ 140737488355328 := by simp only [List.length_singleton]; omega
  have l1 : (dg ++ [(201 : Int)]).length = dg.length + 1 := by simp
  have l2 : (es ++ [(202 : Int)]).length = es.length + 1 := by simp
  have l3 : (fl ++ [true]).length = fl.length + 1 := by simp
  have k1 : (0 : Int) ≤ (dg.length : Int) := by omega
  have k2 : (dg.length : Int) ≤ ((dg.length + 1 : Nat) : Int) := by omega
  have k3 : (dg.length : Int) < ((dg.length + 1 : Nat) : Int) := by omega
  have k4 : (0 : Int) ≤ (es.length : Int) := by omega
  have k5 : (es.length : Int) ≤ ((es.length + 1 : Nat) : Int) := by omega
  have k6 : (es.length : Int) < ((es.length + 1 : Nat) : Int) := by omega
  have k7 : (fl.length : Int) ≤ ((fl.length + 1 : Nat) : Int) := by omega
  have k8 : (0 : Int) ≤ (fl.length : Int) := by omega
  have t1 : (dg ++ [(201 : Int)]).take dg.length = dg := by simp
  have t2 : (es ++ [(202 : Int)]).take es.length = es := by simp
  have t3 : (fl ++ [true]).take fl.length = fl := by simp
  have v1 : (dg ++ [(201 : Int)]).getD dg.length 0 = 201 := by simp [List.getD_eq_getElem?_getD]
  have v2 : (es ++ [(202 : Int)]).getD es.length 0 = 202 := by simp [List.getD_eq_getElem?_getD]
  obtain ⟨s1, s2⟩ := SameCheck.is (p, es, fl)
  have si : ∀ a b, SameIntsH.pre a b = true := fun _ _ => rfl
  have sj : SameIntsH.fn dg dg = (true, ()) := by show (decide (dg = dg), ()) = _; rw [decide_eq_true rfl]
  have n1 : ∀ e, num17.pre e = true := fun e => (num17.is e).1
  have n2 : ∀ e, num17.fn e = (e, ()) := fun e => (num17.is e).2
  rcases c2.symm with ⟨e, c2⟩ | ⟨n, hC, hn, c2⟩
  · refine ⟨none, none, .inl ⟨rfl, rfl⟩, ?_⟩
    unfold begin17.run'
    simp only [a1, a2, b1, b2, c1, c2, if_true, Option.isNone_none, Bool.true_eq_false, if_false]
  have nils : ∀ e : Int, ∃ z21 z25 z29, begin17.F21 e e true 0 (dg ++ [201]) p (es ++ [202]) (fl ++ [true]) = some z21 ∧ z21 = ((e, e, true, ()), ((p, ()), es ++ [202], fl ++ [true], ())) ∧ begin17.F25 e e true 0 p (es ++ [202]) (fl ++ [true]) = some z25 ∧ (∃ r1, z25 = ((e, e, true, ()), ((p, ()), r1, fl ++ [true], ())) ∧ begin17.F29 e e true 0 p r1 (fl ++ [true]) = some z29 ∧ z29 = ((e, e, true, ()), ())) := by
    intro e
    obtain ⟨x, hx, hx2⟩ := begin17.F21_ok (f12 := e) (g14 := e) (same15 := true) (c1x0 := p) (r2 := es ++ [202]) (r3 := fl ++ [true]) (r0 := dg ++ [201]) (by omega)
    obtain ⟨y, hy, r1, hr1, hy2⟩ := begin17.F25_ok (f12 := e) (g14 := e) (same15 := true) (c0x0 := p) (r2 := fl ++ [true]) (r1 := es ++ [202]) (by omega)
    obtain ⟨z, hz, hz2⟩ := begin17.F29_ok (f12 := e) (g14 := e) (same15 := true) (c0x0 := p) (r1 := r1) (r2 := fl ++ [true]) (by omega)
    exact ⟨x, y, z, hx, hx2, hy, r1, hy2, hz, hz2⟩
  cases fr with
  | true =>
    obtain ⟨p1, p2⟩ := FromE.all hC (by omega) (dg := dg) (by omega) p (es := es) (by omega) (fl := fl) (by omega)
    obtain ⟨q1, q2⟩ := FromR.is hC (by omega) (dg := dg) (by omega) (p := p) (es := es) (by omega) (fl := fl) (by omega)
    by_cases hm : mayB n dg = true
    · by_cases ho : fromOk cs.length dg p es fl = true
      · rw [if_pos hm, if_pos ho] at p2 q2
        have hfl : fl.length = cs.length := by
          unfold fromOk at ho
          simp only [Bool.and_eq_true, decide_eq_true_eq] at ho
          exact ho.2.2.1
        obtain ⟨w1, w2⟩ := fromW_ok hfl
        have hfs : flagsOf cs.length (fromW cs.length fl) = fl := flags_from hfl
        refine ⟨_, _, .inr ⟨cs, dg, es, fromW cs.length fl, p, by omega, w1, fun t ht => ?_, by omega, rfl, by rw [hfs]⟩, ?_⟩
        · rw [w2, List.getD_eq_getElem?_getD, List.getElem?_eq_none (by omega)]
          rfl
        · obtain ⟨x, hx, rfl⟩ := begin17.F21v1_ok (f12 := 0) (g14 := 0) (same15 := true) (c1x0 := p) (c2x0 := some cs) (c2x4 := p) (c2x5 := false) (c2x6 := 0) (c2x7 := -1) (c3x0 := cs) (c3x4 := p) (c3x5 := false) (c3x6 := 0) (c3x7 := -1) (r4 := es ++ [202]) (r5 := fl ++ [true]) (r6 := dg) (r7 := es) (r8 := fromW cs.length fl) (r9 := []) (r10 := dg) (r11 := es) (r12 := fl) (r0 := dg ++ [201]) (by omega)
          obtain ⟨y, hy, r1, hr1, rfl⟩ := begin17.F25v1_ok (f12 := 0) (g14 := 0) (same15 := true) (c0x0 := p) (c1x0 := some cs) (c1x4 := p) (c1x5 := false) (c1x6 := 0) (c1x7 := -1) (c2x0 := cs) (c2x4 := p) (c2x5 := false) (c2x6 := 0) (c2x7 := -1) (r4 := fl ++ [true]) (r5 := dg) (r6 := es) (r7 := fromW cs.length fl) (r8 := []) (r9 := dg) (r10 := es) (r11 := fl) (r3 := es ++ [202]) (by omega)
          obtain ⟨z, hz, rfl⟩ := begin17.F29v1_ok (f12 := 0) (g14 := 0) (same15 := true) (c0x0 := p) (c1x0 := some cs) (c1x4 := p) (c1x5 := false) (c1x6 := 0) (c1x7 := -1) (c2x0 := cs) (c2x4 := p) (c2x5 := false) (c2x6 := 0) (c2x7 := -1) (r3 := r1) (r5 := dg) (r6 := es) (r7 := fromW cs.length fl) (r8 := []) (r9 := dg) (r10 := es) (r11 := fl) (r4 := fl ++ [true]) (by omega)
          unfold begin17.run' begin17.FGr6
          simp only [a1, a2, b1, b2, c1, c2, d1, d2, e1, e2, f1, f2, g1, g2, g3, l1, l2, l3, k1, k2, k3, k4, k5, k6, k7, k8, t1, t2, t3, v1, v2, s1, s2, si, sj, n1, n2, p1, p2, q1, q2, hx, hy, hz, hfs, letZ, if_true, if_false, Int.toNat_natCast, Option.isNone_none, Option.isNone_some, Bool.true_eq_false, Bool.false_eq_true, Option.getD_some, beq_self_eq_true, bne_self_eq_false, decide_true]
      · rw [if_pos hm, if_neg ho] at p2 q2
        refine ⟨none, none, .inl ⟨rfl, rfl⟩, ?_⟩
        obtain ⟨_, _, _, hx, rfl, hy, r1, rfl, hz, rfl⟩ := nils 180
        unfold begin17.run' begin17.FGr6
        simp only [a1, a2, b1, b2, c1, c2, d1, d2, e1, e2, f1, f2, g1, g2, g3, l1, l2, l3, k1, k2, k3, k4, k5, k6, k7, k8, t1, t2, t3, v1, v2, s1, s2, si, sj, n1, n2, p1, p2, q1, q2, hx, hy, hz, letZ, if_true, if_false, Int.toNat_natCast, Option.isNone_none, Option.isNone_some, Bool.true_eq_false, Bool.false_eq_true, Option.getD_some, beq_self_eq_true, bne_self_eq_false, decide_true]
    · rw [if_neg hm] at p2 q2
      refine ⟨none, none, .inl ⟨rfl, rfl⟩, ?_⟩
      obtain ⟨_, _, _, hx, rfl, hy, r1, rfl, hz, rfl⟩ := nils 172
      unfold begin17.run' begin17.FGr6
      simp only [a1, a2, b1, b2, c1, c2, d1, d2, e1, e2, f1, f2, g1, g2, g3, l1, l2, l3, k1, k2, k3, k4, k5, k6, k7, k8, t1, t2, t3, v1, v2, s1, s2, si, sj, n1, n2, p1, p2, q1, q2, hx, hy, hz, letZ, if_true, if_false, Int.toNat_natCast, Option.isNone_none, Option.isNone_some, Bool.true_eq_false, Bool.false_eq_true, Option.getD_some, beq_self_eq_true, bne_self_eq_false, decide_true]
  | false =>
    obtain ⟨p1, p2⟩ := NewE.is hC (by omega) (dg := dg) (by omega)
    obtain ⟨q1, q2⟩ := NewR.is hC (by omega) (dg := dg) (by omega)
    by_cases hm : mayB n dg = true
    · rw [if_pos hm] at p2 q2
      have hlen : dg.length = n := by
        unfold mayB at hm
        rw [Bool.and_eq_true, decide_eq_true_eq] at hm
        exact hm.2
      refine ⟨_, _, .inr ⟨cs, dg, dg, newW cs dg, 0, by omega, (newW_ok hC hlen).1, newW_in hC hlen, by omega, rfl, rfl⟩, ?_⟩
      obtain ⟨x, hx, rfl⟩ := begin17.F21v1_ok (f12 := 0) (g14 := 0) (same15 := true) (c1x0 := p) (c2x0 := some cs) (c2x4 := 0) (c2x5 := false) (c2x6 := 0) (c2x7 := -1) (c3x0 := cs) (c3x4 := 0) (c3x5 := false) (c3x6 := 0) (c3x7 := -1) (r4 := es ++ [202]) (r5 := fl ++ [true]) (r6 := dg) (r7 := dg) (r8 := newW cs dg) (r9 := []) (r10 := dg) (r11 := dg) (r12 := flagsOf cs.length (newW cs dg)) (r0 := dg ++ [201]) (by omega)
      obtain ⟨y, hy, r1, hr1, rfl⟩ := begin17.F25v1_ok (f12 := 0) (g14 := 0) (same15 := true) (c0x0 := p) (c1x0 := some cs) (c1x4 := 0) (c1x5 := false) (c1x6 := 0) (c1x7 := -1) (c2x0 := cs) (c2x4 := 0) (c2x5 := false) (c2x6 := 0) (c2x7 := -1) (r4 := fl ++ [true]) (r5 := dg) (r6 := dg) (r7 := newW cs dg) (r8 := []) (r9 := dg) (r10 := dg) (r11 := flagsOf cs.length (newW cs dg)) (r3 := es ++ [202]) (by omega)
      obtain ⟨z, hz, rfl⟩ := begin17.F29v1_ok (f12 := 0) (g14 := 0) (same15 := true) (c0x0 := p) (c1x0 := some cs) (c1x4 := 0) (c1x5 := false) (c1x6 := 0) (c1x7 := -1) (c2x0 := cs) (c2x4 := 0) (c2x5 := false) (c2x6 := 0) (c2x7 := -1) (r3 := r1) (r5 := dg) (r6 := dg) (r7 := newW cs dg) (r8 := []) (r9 := dg) (r10 := dg) (r11 := flagsOf cs.length (newW cs dg)) (r4 := fl ++ [true]) (by omega)
      unfold begin17.run' begin17.FGr6
      simp only [a1, a2, b1, b2, c1, c2, d1, d2, e1, e2, f1, f2, g1, g2, g3, l1, l2, l3, k1, k2, k3, k4, k5, k6, k7, k8, t1, t2, t3, v1, v2, s1, s2, si, sj, n1, n2, p1, p2, q1, q2, hx, hy, hz, letZ, if_true, if_false, Int.toNat_natCast, Option.isNone_none, Option.isNone_some, Bool.true_eq_false, Bool.false_eq_true, Option.getD_some, beq_self_eq_true, bne_self_eq_false, decide_true]
    · rw [if_neg hm] at p2 q2
      refine ⟨none, none, .inl ⟨rfl, rfl⟩, ?_⟩
      obtain ⟨_, _, _, hx, rfl, hy, r1, rfl, hz, rfl⟩ := nils 172
      unfold begin17.run' begin17.FGr6
      simp only [a1, a2, b1, b2, c1, c2, d1, d2, e1, e2, f1, f2, g1, g2, g3, l1, l2, l3, k1, k2, k3, k4, k5, k6, k7, k8, t1, t2, t3, v1, v2, s1, s2, si, sj, n1, n2, p1, p2, q1, q2, hx, hy, hz, letZ, if_true, if_false, Int.toNat_natCast, Option.isNone_none, Option.isNone_some, Bool.true_eq_false, Bool.false_eq_true, Option.getD_some, beq_self_eq_true, bne_self_eq_false, decide_true]
theorem EstBegins.holds (s : List Int × List Int × Bool × Int × List Int × List Bool) {A : Prop} (w0 : A) : EstBegins.pre s = true ∧ EstBegins.fn s = (true, ()) := by
  obtain ⟨cs, dg, fr, p, es, fl⟩ := s
  refine EstBegins.is_fn _ ?_
  obtain ⟨x1, x2⟩ := first17.is
  obtain ⟨y1, y2⟩ := few.is cs dg fr p es fl
  unfold EstBegins.run'
  by_cases hf : cs.length ≤ 400 ∧ dg.length ≤ 400 ∧ es.length ≤ 400 ∧ fl.length ≤ 400
  · rw [decide_eq_true hf] at y2
    obtain ⟨x, r, hA, b1, b2⟩ := begin17.is cs dg fr p es fl hf.1 hf.2.1 hf.2.2.1 hf.2.2.2
    rcases hA with ⟨rfl, rfl⟩ | ⟨cs', dg', bd, dr, p', hl, hw, hin, hb, rfl, rfl⟩
    · simp only [x1, x2, y1, y2, b1, b2, letZ, if_true, if_false, Bool.not_true, Option.isNone_none, Bool.false_eq_true]
    · obtain ⟨t1, t2⟩ := tells.is (n := 0) hl hw hin hb dg' dg' p' 0 (-1) 0 (-1) []
      simp only [x1, x2, y1, y2, b1, b2, t1, t2, letZ, if_true, if_false, Bool.not_true, Option.isNone_some, Bool.false_eq_true, Option.getD_some]
  · rw [decide_eq_false hf] at y2
    simp only [x1, x2, y1, y2, if_true, if_false, Bool.not_true, Bool.not_false, Bool.false_eq_true]
end Go.Proofs.YthbojpaghbbnnaaDoor.Z
namespace Go.Proofs.YthbojpaghbbnnaaDoor.estBegins
open Go Go.ChangeShapes Go.WideShapes Go.ChangeAt Go.RowKit Go.Proofs.YthbojpaghbbnnaaDoor.Z
set_option linter.unusedVariables false
set_option maxRecDepth 100000 in
theorem lifted (os : Os) (started : os.Started) (H : Type) (enc : TypeId × Value → H) :
    ReturnsInHanded {} Tryd.checked os 3 .any (fun w args => (Rows.estBeginsSpec.pre enc Tryd.prog Tryd.f3 [] false w args ∧ laidMetH Tryd.prog Kx.laidT w) ∧ sizedMet enc Tryd.prog Tryd.f3 (OpenSpec.ofChange Rows.estBeginsSpec) false w args) (Rows.estBeginsSpec.post enc Tryd.prog Tryd.f3 false true false false) := by
  refine returnsInHanded_of_change_and (C := Tryd.checked) (X := fun w _ => laidMetH Tryd.prog Kx.laidT w) (fun _ _ _ hh h => h.of_heap hh) Facts.own started (by kernel_rfl) Tryd.func3
    (ChangeSpec.witness_shaped (enc := enc) (C := Tryd.checked) (os := os) (X := fun w _ => laidMetH Tryd.prog Kx.laidT w) false (World.doorLaid Tryd.prog 200 os) #[.agg #[.slice none 0 0, .slice none 0 0, .bool false, .int .i64 0, .slice none 0 0, .slice none 0 0]] 8 rfl (World.shaped_of_RefB (by kernel_rfl) (by kernel_rfl)) (by kernel_rfl) (by kernel_rfl) (by kernel_rfl) (Kx.door_met os _)) ?_
  intro W base args ds gs before hval0 hW hcnd hsz0 hL _
  have hval : ∀ (j : Nat) t v, Tryd.f3.params[j]? = some t → args[j]? = some v → Value.okWide Tryd.prog W .any base t v := hval0
  have hW' := hW
  obtain ⟨p, q, hA0, hV, rfl, hfz, hnd⟩ := hW
  have hA : DataW.TrodAll enc Tryd.prog W 0 (fun _ => true) true Tryd.f3.params.toList args.toList ds p := hA0
  rw [Tryd.params3] at hA hval
  obtain ⟨v0, vs0, d0, ds0, p0, q0, hargs, rfl, rfl, h0, r0⟩ := trodAll_cons hA
  obtain ⟨rfl, rfl, rfl⟩ := trodAll_nil r0
  obtain rfl : args = #[v0] := by cases args; simp_all
  obtain ⟨rfl, rfl⟩ := trodVars_none hV
  have k0 := h0
  have lt0 : ∀ x ∈ p0, x.block < W.heap.size := by obtain ⟨m, hm⟩ := k0; exact DataW.trod_lt m _ _ _ hm
  obtain ⟨a0, e0, _⟩ := okWide_struct Tryd.underlying27 (hval 0 27 v0 rfl rfl)
  subst e0
  obtain ⟨x0, g0, w0⟩ := ird_of (ρ := rho) (opens_four (ρ := rho) Tryd.underlying27 (by kernel_rfl) rfl (by kernel_rfl) (by kernel_rfl) (by kernel_rfl) (opens_list (ρ := rho) Tryd.underlying22 (by kernel_rfl) (opens_int Tryd.underlying3)) (opens_list (ρ := rho) Tryd.underlying22 (by kernel_rfl) (opens_int Tryd.underlying3)) (opens_bool Tryd.underlying4) (opens_three (ρ := rho) Tryd.underlying25 (by kernel_rfl) rfl (by kernel_rfl) (by kernel_rfl) (opens_int Tryd.underlying3) (opens_list (ρ := rho) Tryd.underlying22 (by kernel_rfl) (opens_int Tryd.underlying3)) (opens_list (ρ := rho) Tryd.underlying23 (by kernel_rfl) (opens_bool Tryd.underlying4)))) rfl h0
  clear hA0 hval0
  obtain ⟨hp, hf⟩ := EstBegins.holds x0 w0
  refine (calls_true (EstBegins.okR).2 rfl (x0, ()) hp (congrArg (·.1) hf) W [.agg a0] (Kx.kok_of_laid hL) ⟨g0, trivial⟩).mono fun e W' ⟨he, bel⟩ => ?_
  subst he
  exact ⟨_, rfl, _, _, _, [], _, [], hW', trodAll_mk1 (shut_bool Tryd.underlying4 _), (trodAll_cons_mk (Below.trod Facts.laidOut (by kernel_rfl) (of_decide_eq_true (by kernel_rfl)) k0 bel lt0) trodAll_mk0), rfl, bel.frame _, fun h => by cases h⟩
theorem joined : joinedFacts Tryd.prog 3 Tryd.f3 Rows.estBeginsSpec Rows.estBeginsRow = true :=
  Facts.joined_of Facts.heads Facts.laidOut Facts.mapsRowed Facts.stops Facts.stopKnobs Facts.stopsHeard Facts.plainKeys rfl rfl rfl rfl rfl rfl
    (by kernel_rfl) (by kernel_rfl) (by kernel_rfl) (by kernel_rfl) (by kernel_rfl) (by kernel_rfl) (by kernel_rfl)
theorem over : Rows.estBeginsRow.holds Tryd.pinned (OpenSpec.ofChange Rows.estBeginsSpec) :=
  OpenClaim.holds_of_wide 3 Tryd.f3 rfl rfl rfl rfl rfl rfl rfl ⟨rfl, rfl, rfl, rfl, rfl⟩ rfl rfl rfl rfl rfl (by kernel_rfl) Tryd.func3 joined
    (of_decide_eq_true (by kernel_rfl)) (by unfold Func.isWrapper; first | (rw [if_pos (by decide +kernel)]; kernel_rfl) | (rw [if_neg (by decide +kernel)]; exact ⟨rfl, rfl⟩))
    (fun os started H enc _ => lifted os started H enc)
theorem card : Rows.EstBeginsCardSaid :=
  Claim7.holds_tied_plain_at .later [] [.data] true Rows.estBeginsCard.stood.harness Rows.estBeginsCard.stood.looks
    over (fun _ h => by cases h) (by kernel_rfl) (fun _ h => by cases h) estBegins_row_tie rfl ⟨rfl, rfl⟩ (by kernel_rfl) rfl
    (fun f fn hf hfn => by
      obtain rfl : f = 3 := Option.some.inj ((show Tryd.prog.funcNamed "pith/pithlaw17.EstBegins" = some 3 by kernel_rfl).symm.trans hf) |>.symm
      obtain rfl : fn = Tryd.f3 := (Option.some.inj (Tryd.func3.symm.trans hfn)).symm
      exact ⟨by kernel_rfl, fun j t ht => by
        rw [Tryd.params3] at ht
        have h3 : t ∈ [27] := List.mem_of_getElem? (by simpa using ht)
        simp only [List.mem_cons, List.not_mem_nil, or_false] at h3
        rcases h3 with rfl
        · exact (show Tryd.prog.wantsStandIn 27 = false by kernel_rfl)⟩)
    (by kernel_rfl)
#print axioms card
end Go.Proofs.YthbojpaghbbnnaaDoor.estBegins
namespace Go.Proofs.YthbojpaghbbnnaaDoor
/-- The card, under a short name, for the claim. -/
theorem estBegins_holds : Rows.EstBeginsCardSaid := estBegins.card
end Go.Proofs.YthbojpaghbbnnaaDoor
