/- What functions compute from plain values: HindexHolds. Printed by a small program of ours (zgen, zg.py); no condition. -/
import Derived.Test.YthbojpaghbbnnaaZN
import Derived.Test.YthbojpaghbbnnaaZT
import Derived.Test.YthbojpaghbbnnaaZP
import Derived.Test.YthbojpaghbbnnaaZS
import Derived.Test.YthbojpaghbbnnaaVA
import Derived.KernelRfl
namespace Go.Proofs.Ythbojpaghbbnnaa.Z
open Go Go.RowKit
set_option linter.unusedVariables false
set_option linter.unusedSimpArgs false
/-! pith/pithlaw7.HindexHolds -/
namespace HindexHolds
abbrev ps : List PM := [.val (.list I64), .val I64, .val I64, .val I64]
abbrev rs : List PM := [.val .bool]
noncomputable abbrev code : Code := (Go.Proofs.Try.f17.body.getD .skip)
abbrev s8 : Shape := ⟨[.v (.list I64), .v I64, .v I64, .v I64, .un, .un, .un, .un, .un, .un, .v I64, .v I64, .v I64, .v I64, .un, .un, .un, .un, .un, .un, .un, .un, .un, .un, .un, .un, .un, .un, .un, .un, .un, .un, .un, .un, .un, .un, .un, .un, .un, .un, .un, .un, .un, .un, .un, .un, .un, .un, .un, .un, .un, .un, .un, .un, .un, .un, .un, .un, .un, .un, .un, .un, .un, .un, .un, .un, .un, .un, .un, .un, .un, .un, .un, .un, .un, .un, .un, .un, .un, .un, .un, .un, .un, .un, .un, .un, .un, .un, .un, .un, .un, .un, .un, .un, .un, .un, .un, .un, .un, .un, .un, .un, .un, .un, .un, .un, .un, .un, .un, .un, .un, .un, .un, .un, .un, .un, .un, .un, .un, .un, .un, .un, .un, .un, .un, .un, .un, .un, .un, .un, .un, .un, .un, .un, .un, .un, .un, .un, .un, .un, .un, .un, .un, .un, .un, .un, .un, .un, .un, .un, .un, .un, .un, .un, .un, .un, .un, .un, .un, .un, .un, .un, .un, .un, .un, .un, .un, .un, .un, .un, .un, .un, .un, .un, .un], []⟩
abbrev x8 : List Way := [⟨(.ex 0), ⟨[(0, none), (1, none), (2, none), (3, none), (10, none), (11, none), (12, none)]⟩, ⟨[.v (.list I64), .v I64, .v I64, .v I64, .un, .un, .un, .un, .un, .un, .v I64, .v I64, .v I64, .un, .un, .un, .un, .un, .un, .un, .un, .un, .un, .un, .un, .un, .un, .un, .un, .un, .un, .un, .un, .un, .un, .un, .un, .un, .un, .un, .un, .un, .un, .un, .un, .un, .un, .un, .un, .un, .un, .un, .un, .un, .un, .un, .un, .un, .un, .un, .un, .un, .un, .un, .un, .un, .un, .un, .un, .un, .un, .un, .un, .un, .un, .un, .un, .un, .un, .un, .un, .un, .un, .un, .un, .un, .un, .un, .un, .un, .un, .un, .un, .un, .un, .un, .un, .un, .un, .un, .un, .un, .un, .un, .un, .un, .un, .un, .un, .un, .un, .un, .un, .un, .un, .un, .un, .un, .un, .un, .un, .un, .un, .un, .un, .un, .un, .un, .un, .un, .un, .un, .un, .un, .un, .un, .un, .un, .un, .un, .un, .un, .un, .un, .un, .un, .un, .un, .un, .un, .un, .un, .un, .un, .un, .un, .un, .un, .un, .un, .un, .un, .un, .un, .un, .un, .un, .un, .un, .un, .un, .un, .un, .un, .un], []⟩⟩]
abbrev V8 : Type := ((List Int) × Int × Int × Int × Int × Int × Int × Int × Unit) × (Unit)
abbrev X8 : Type := ((List Int) × Int × Int × Int × Int × Int × Int × Unit) × (Unit)
noncomputable def R8 {R : Type} (l0 : (List Int)) (m1 : Int) (at2 : Int) (by3 : Int) (h10 : Int) (n11 : Int) (more12 : Int) (i13 : Int) (k : V8 → Option R) (kx : X8 → Option R) : Option R := (if Decidable.decide (i13 < (↑(List.length l0) : Int)) = Bool.true then (if (0 : Int) ≤ i13 then (if i13 < (↑(List.length l0) : Int) then (if Decidable.decide (List.getD l0 (Int.toNat i13) (0 : Int) ≥ h10) = Bool.true then (if (0 : Int) ≤ i13 then (if i13 < (↑(List.length l0) : Int) then (if Decidable.decide (List.getD l0 (Int.toNat i13) (0 : Int) > h10) = Bool.true then k ((l0, m1, at2, by3, h10, IntKind.wrap .i64 (n11 + (1 : Int)), IntKind.wrap .i64 (more12 + (1 : Int)), IntKind.wrap .i64 (i13 + (1 : Int)), ()), (()))
 else k ((l0, m1, at2, by3, h10, IntKind.wrap .i64 (n11 + (1 : Int)), more12, IntKind.wrap .i64 (i13 + (1 : Int)), ()), (())))
 else none)
 else none)
 else (if (0 : Int) ≤ i13 then (if i13 < (↑(List.length l0) : Int) then (if Decidable.decide (List.getD l0 (Int.toNat i13) (0 : Int) > h10) = Bool.true then k ((l0, m1, at2, by3, h10, n11, IntKind.wrap .i64 (more12 + (1 : Int)), IntKind.wrap .i64 (i13 + (1 : Int)), ()), (()))
 else k ((l0, m1, at2, by3, h10, n11, more12, IntKind.wrap .i64 (i13 + (1 : Int)), ()), (())))
 else none)
 else none))
 else none)
 else none)
 else kx (((l0, m1, at2, by3, h10, n11, more12, ()), (()))))
noncomputable def rd8 : Rd (VO s8) (Xs x8) := fun v k kx => match v with
  | ((l0, m1, at2, by3, h10, n11, more12, i13, _), _) => R8 l0 m1 at2 by3 h10 n11 more12 i13 k kx
noncomputable def F8 (l0 : (List Int)) (m1 : Int) (at2 : Int) (by3 : Int) (h10 : Int) (n11 : Int) (more12 : Int) (i13 : Int) : Option X8 := finOf rd8 ((l0, m1, at2, by3, h10, n11, more12, i13, ()), (()))
theorem F8_inv {l0 : (List Int)} {m1 : Int} {at2 : Int} {by3 : Int} {h10 : Int} (I : Int → Int → Int → Prop) (μ : Int → Int → Int → Nat) (Q : X8 → Prop) (h : ∀ (n11 : Int) (more12 : Int) (i13 : Int), I n11 more12 i13 → Led (fun (R : Type) (k : V8 → Option R) (kx : X8 → Option R) => R8 l0 m1 at2 by3 h10 n11 more12 i13 k kx) (fun v => ∃ (n11' : Int) (more12' : Int) (i13' : Int), v = ((l0, m1, at2, by3, h10, n11', more12', i13', ()), ()) ∧ I n11' more12' i13' ∧ μ n11' more12' i13' < μ n11 more12 i13) Q) : ∀ (n11 : Int) (more12 : Int) (i13 : Int), I n11 more12 i13 → ∃ z, F8 l0 m1 at2 by3 h10 n11 more12 i13 = some z ∧ Q z := fun n11 more12 i13 hi => by
  refine finOf_inv (V := V8) (X := X8) (rd := rd8) (fun v => ∃ (n11' : Int) (more12' : Int) (i13' : Int), v = ((l0, m1, at2, by3, h10, n11', more12', i13', ()), ()) ∧ I n11' more12' i13') (fun v => match v with
    | ((l0, m1, at2, by3, h10, n11, more12, i13, _), _) => μ n11 more12 i13) Q (fun v hv => ?_) ((l0, m1, at2, by3, h10, n11, more12, i13, ()), ()) ⟨n11, more12, i13, rfl, hi⟩
  obtain ⟨n11, more12, i13, rfl, hi⟩ := hv
  refine led_mono (h n11 more12 i13 hi) ?_ (fun _ q => q)
  rintro v ⟨n11', more12', i13', rfl, h1, h2⟩
  exact ⟨⟨n11', more12', i13', rfl, h1⟩, h2⟩
noncomputable def L8 : Lp := ⟨8, ⟨[(0, none), (1, none), (2, none), (3, none), (10, none), (11, none), (12, none), (13, none)]⟩, s8, x8, fun v => match v with
  | ((l0, m1, at2, by3, h10, n11, more12, i13, _), _) => F8 l0 m1 at2 by3 h10 n11 more12 i13⟩
theorem ends8 : Ends L8 rd8 := ends_fin (fun v => by
  obtain ⟨⟨l0, m1, at2, by3, h10, n11, more12, i13, _⟩, ⟨_⟩⟩ := v
  rfl)
abbrev s18 : Shape := ⟨[.v (.list I64), .v I64, .v I64, .v I64, .un, .un, .un, .un, .un, .un, .v I64, .un, .un, .un, .row 0, .v I64, .un, .un, .un, .un, .un, .un, .un, .un, .un, .un, .un, .un, .un, .un, .un, .un, .un, .un, .un, .un, .un, .un, .un, .un, .un, .un, .un, .un, .un, .un, .un, .un, .un, .un, .un, .un, .un, .un, .un, .un, .un, .un, .un, .un, .un, .un, .un, .un, .un, .un, .un, .un, .un, .un, .un, .un, .un, .un, .un, .un, .un, .un, .un, .un, .un, .un, .un, .un, .un, .un, .un, .un, .un, .un, .un, .un, .un, .un, .un, .un, .un, .un, .un, .un, .un, .un, .un, .un, .un, .un, .un, .un, .un, .un, .un, .un, .un, .un, .un, .un, .un, .un, .un, .un, .un, .un, .un, .un, .un, .un, .un, .un, .un, .un, .un, .un, .un, .un, .un, .un, .un, .un, .un, .un, .un, .un, .un, .un, .un, .un, .un, .un, .un, .un, .un, .un, .un, .un, .un, .un, .un, .un, .un, .un, .un, .un, .un, .un, .un, .un, .un, .un, .un, .un, .un, .un, .un, .un, .un], [.row (3 : Go.TypeId) I64]⟩
abbrev x18 : List Way := [⟨(.ex 2), ⟨[(0, none), (1, none), (2, none), (3, none), (10, none), (14, none)]⟩, ⟨[.v (.list I64), .v I64, .v I64, .v I64, .un, .un, .un, .un, .un, .un, .v I64, .un, .un, .un, .row 0, .un, .un, .un, .un, .un, .un, .un, .un, .un, .un, .un, .un, .un, .un, .un, .un, .un, .un, .un, .un, .un, .un, .un, .un, .un, .un, .un, .un, .un, .un, .un, .un, .un, .un, .un, .un, .un, .un, .un, .un, .un, .un, .un, .un, .un, .un, .un, .un, .un, .un, .un, .un, .un, .un, .un, .un, .un, .un, .un, .un, .un, .un, .un, .un, .un, .un, .un, .un, .un, .un, .un, .un, .un, .un, .un, .un, .un, .un, .un, .un, .un, .un, .un, .un, .un, .un, .un, .un, .un, .un, .un, .un, .un, .un, .un, .un, .un, .un, .un, .un, .un, .un, .un, .un, .un, .un, .un, .un, .un, .un, .un, .un, .un, .un, .un, .un, .un, .un, .un, .un, .un, .un, .un, .un, .un, .un, .un, .un, .un, .un, .un, .un, .un, .un, .un, .un, .un, .un, .un, .un, .un, .un, .un, .un, .un, .un, .un, .un, .un, .un, .un, .un, .un, .un, .un, .un, .un, .un, .un, .un], [.row (3 : Go.TypeId) I64]⟩⟩]
abbrev V18 : Type := ((List Int) × Int × Int × Int × Int × Int × Unit) × ((List Int) × Unit)
abbrev X18 : Type := ((List Int) × Int × Int × Int × Int × Unit) × ((List Int) × Unit)
noncomputable def R18 {R : Type} (l0 : (List Int)) (m1 : Int) (at2 : Int) (by3 : Int) (h10 : Int) (i15 : Int) (r0 : List Int) (k : V18 → Option R) (kx : X18 → Option R) : Option R := (if Decidable.decide (i15 < (↑(List.length l0) : Int)) = Bool.true then (if (0 : Int) ≤ i15 then (if i15 < (↑(List.length l0) : Int) then (if (0 : Int) ≤ IntKind.wrap .i64 (IntKind.wrap .i64 ((↑(List.length l0) : Int) - (1 : Int)) - i15) then (if IntKind.wrap .i64 (IntKind.wrap .i64 ((↑(List.length l0) : Int) - (1 : Int)) - i15) < (↑(List.length r0) : Int) then (if Int.toNat (IntKind.wrap .i64 (IntKind.wrap .i64 ((↑(List.length l0) : Int) - (1 : Int)) - i15)) < List.length r0 then k ((l0, m1, at2, by3, h10, IntKind.wrap .i64 (i15 + (1 : Int)), ()), (List.set r0 (Int.toNat (IntKind.wrap .i64 (IntKind.wrap .i64 ((↑(List.length l0) : Int) - (1 : Int)) - i15))) (List.getD l0 (Int.toNat i15) (0 : Int)), ()))
 else none)
 else none)
 else none)
 else none)
 else none)
 else kx (((l0, m1, at2, by3, h10, ()), (r0, ()))))
noncomputable def rd18 : Rd (VO s18) (Xs x18) := fun v k kx => match v with
  | ((l0, m1, at2, by3, h10, i15, _), (r0, _)) => R18 l0 m1 at2 by3 h10 i15 r0 k kx
noncomputable def F18 (l0 : (List Int)) (m1 : Int) (at2 : Int) (by3 : Int) (h10 : Int) (i15 : Int) (r0 : List Int) : Option X18 := finOf rd18 ((l0, m1, at2, by3, h10, i15, ()), (r0, ()))
theorem F18_inv {l0 : (List Int)} {m1 : Int} {at2 : Int} {by3 : Int} {h10 : Int} (I : Int → List Int → Prop) (μ : Int → List Int → Nat) (Q : X18 → Prop) (h : ∀ (i15 : Int) (r0 : List Int), I i15 r0 → Led (fun (R : Type) (k : V18 → Option R) (kx : X18 → Option R) => R18 l0 m1 at2 by3 h10 i15 r0 k kx) (fun v => ∃ (i15' : Int) (r0' : List Int), v = ((l0, m1, at2, by3, h10, i15', ()), (r0', ())) ∧ I i15' r0' ∧ μ i15' r0' < μ i15 r0) Q) : ∀ (i15 : Int) (r0 : List Int), I i15 r0 → ∃ z, F18 l0 m1 at2 by3 h10 i15 r0 = some z ∧ Q z := fun i15 r0 hi => by
  refine finOf_inv (V := V18) (X := X18) (rd := rd18) (fun v => ∃ (i15' : Int) (r0' : List Int), v = ((l0, m1, at2, by3, h10, i15', ()), (r0', ())) ∧ I i15' r0') (fun v => match v with
    | ((l0, m1, at2, by3, h10, i15, _), (r0, _)) => μ i15 r0) Q (fun v hv => ?_) ((l0, m1, at2, by3, h10, i15, ()), (r0, ())) ⟨i15, r0, rfl, hi⟩
  obtain ⟨i15, r0, rfl, hi⟩ := hv
  refine led_mono (h i15 r0 hi) ?_ (fun _ q => q)
  rintro v ⟨i15', r0', rfl, h1, h2⟩
  exact ⟨⟨i15', r0', rfl, h1⟩, h2⟩
noncomputable def L18 : Lp := ⟨18, ⟨[(0, none), (1, none), (2, none), (3, none), (10, none), (14, none), (15, none)]⟩, s18, x18, fun v => match v with
  | ((l0, m1, at2, by3, h10, i15, _), (r0, _)) => F18 l0 m1 at2 by3 h10 i15 r0⟩
theorem ends18 : Ends L18 rd18 := ends_fin (fun v => by
  obtain ⟨⟨l0, m1, at2, by3, h10, i15, _⟩, ⟨r0, _⟩⟩ := v
  rfl)
noncomputable def env : Env := mkEnv tab [(66, first7.sig), (67, IntsO.sig), (68, HH.sig)] 0 [] [L8, L18]
theorem round8 : RoundIs env (sub [true, true, true, true, true, true, false, true, false, false] code) L8 rd8 := fun R v k kx => by kernel_rfl
theorem round18 : RoundIs env (sub [true, true, true, true, true, true, true, true, true, false, true, false, false] code) L18 rd18 := fun R v k kx => by kernel_rfl
abbrev D : Type := (Bool × Unit)
noncomputable def run' (l0 : (List Int)) (m1 : Int) (at2 : Int) (by3 : Int) : Option D := (if first7.pre = Bool.true then (if (!first7.fn.1) = Bool.false then (if Decidable.decide ((↑(List.length l0) : Int) > (16384 : Int)) = Bool.true then some (first7.fn.1, ())
 else (if HH.pre l0 m1 = Bool.true then (match F8 (l0) (m1) (at2) (by3) ((HH.fn l0 m1).1) ((0 : Int)) ((0 : Int)) ((0 : Int)) with
  | some (((l0_1, m1_1, at2_1, by3_1, h10_1, n11_1, more12_1, _), _)) => (if Decidable.decide (h10_1 < (0 : Int)) = Bool.false then (if Decidable.decide (n11_1 < h10_1) = Bool.false then (if Decidable.decide (h10_1 > (0 : Int)) = Bool.true then (if Decidable.decide (h10_1 > m1_1) = Bool.false then (if Decidable.decide (h10_1 < m1_1) = Bool.true then (if Decidable.decide (more12_1 > h10_1) = Bool.true then some (Bool.false, ())
 else (if (↑(List.length l0_1) : Int) = (↑(List.length l0_1) : Int) then (if Int.toNat (↑(List.length l0_1) : Int) * (8 : Nat) ≤ (140737488355328 : Nat) then (match F18 (l0_1) (m1_1) (at2_1) (by3_1) (h10_1) ((0 : Int)) (List.replicate (Int.toNat (↑(List.length l0_1) : Int)) (0 : Int)) with
  | some (((l0_2, m1_2, at2_2, by3_2, h10_2, _), (r0_2, _))) => (if HH.pre r0_2 m1_2 = Bool.true then (if ((HH.fn r0_2 m1_2).1 != h10_2) = Bool.false then (if Decidable.decide (h10_2 > (↑(List.length l0_2) : Int)) = Bool.true then some (Bool.false, ())
 else (if Decidable.decide (m1_2 < (4611686018427387904 : Int)) = Bool.true then (if IntsO.pre l0_2 = Bool.true then (if (List.length (IntsO.fn l0_2).1 + List.length [at2_2]) * (8 : Nat) ≤ (140737488355328 : Nat) then (if HH.pre ((IntsO.fn l0_2).1 ++ [at2_2]) m1_2 = Bool.true then (if Decidable.decide ((HH.fn ((IntsO.fn l0_2).1 ++ [at2_2]) m1_2).1 < h10_2) = Bool.false then (if HH.pre l0_2 (IntKind.wrap .i64 (m1_2 + (1 : Int))) = Bool.true then (if Decidable.decide ((HH.fn l0_2 (IntKind.wrap .i64 (m1_2 + (1 : Int)))).1 < h10_2) = Bool.true then some (Bool.false, ())
 else (if ((↑(List.length l0_2) : Int) == (0 : Int)) = Bool.true then some (Bool.true, ())
 else (if (↑(List.length l0_2) : Int) = (0 : Int) then none
 else (if (↑(List.length l0_2) : Int) = (0 : Int) then none
 else (if IntsO.pre l0_2 = Bool.true then (if Decidable.decide (by3_2 > (0 : Int)) = Bool.true then (if (0 : Int) ≤ Int.tmod (IntKind.wrap .i64 (Int.tmod at2_2 (↑(List.length l0_2) : Int) + (↑(List.length l0_2) : Int))) (↑(List.length l0_2) : Int) then (if Int.tmod (IntKind.wrap .i64 (Int.tmod at2_2 (↑(List.length l0_2) : Int) + (↑(List.length l0_2) : Int))) (↑(List.length l0_2) : Int) < (↑(List.length (IntsO.fn l0_2).1) : Int) then (if Decidable.decide (List.getD (IntsO.fn l0_2).1 (Int.toNat (Int.tmod (IntKind.wrap .i64 (Int.tmod at2_2 (↑(List.length l0_2) : Int) + (↑(List.length l0_2) : Int))) (↑(List.length l0_2) : Int))) (0 : Int) < (4611686018427387904 : Int)) = Bool.true then (if Decidable.decide (by3_2 < (4611686018427387904 : Int)) = Bool.true then (if (0 : Int) ≤ Int.tmod (IntKind.wrap .i64 (Int.tmod at2_2 (↑(List.length l0_2) : Int) + (↑(List.length l0_2) : Int))) (↑(List.length l0_2) : Int) then (if Int.tmod (IntKind.wrap .i64 (Int.tmod at2_2 (↑(List.length l0_2) : Int) + (↑(List.length l0_2) : Int))) (↑(List.length l0_2) : Int) < (↑(List.length (IntsO.fn l0_2).1) : Int) then (if (0 : Int) ≤ Int.tmod (IntKind.wrap .i64 (Int.tmod at2_2 (↑(List.length l0_2) : Int) + (↑(List.length l0_2) : Int))) (↑(List.length l0_2) : Int) then (if Int.tmod (IntKind.wrap .i64 (Int.tmod at2_2 (↑(List.length l0_2) : Int) + (↑(List.length l0_2) : Int))) (↑(List.length l0_2) : Int) < (↑(List.length (IntsO.fn l0_2).1) : Int) then (if Int.toNat (Int.tmod (IntKind.wrap .i64 (Int.tmod at2_2 (↑(List.length l0_2) : Int) + (↑(List.length l0_2) : Int))) (↑(List.length l0_2) : Int)) < List.length (IntsO.fn l0_2).1 then (if HH.pre (List.set (IntsO.fn l0_2).1 (Int.toNat (Int.tmod (IntKind.wrap .i64 (Int.tmod at2_2 (↑(List.length l0_2) : Int) + (↑(List.length l0_2) : Int))) (↑(List.length l0_2) : Int))) (IntKind.wrap .i64 (List.getD (IntsO.fn l0_2).1 (Int.toNat (Int.tmod (IntKind.wrap .i64 (Int.tmod at2_2 (↑(List.length l0_2) : Int) + (↑(List.length l0_2) : Int))) (↑(List.length l0_2) : Int))) (0 : Int) + by3_2))) m1_2 = Bool.true then some (Decidable.decide ((HH.fn (List.set (IntsO.fn l0_2).1 (Int.toNat (Int.tmod (IntKind.wrap .i64 (Int.tmod at2_2 (↑(List.length l0_2) : Int) + (↑(List.length l0_2) : Int))) (↑(List.length l0_2) : Int))) (IntKind.wrap .i64 (List.getD (IntsO.fn l0_2).1 (Int.toNat (Int.tmod (IntKind.wrap .i64 (Int.tmod at2_2 (↑(List.length l0_2) : Int) + (↑(List.length l0_2) : Int))) (↑(List.length l0_2) : Int))) (0 : Int) + by3_2))) m1_2).1 ≥ h10_2), ())
 else none)
 else none)
 else none)
 else none)
 else none)
 else none)
 else (if HH.pre (IntsO.fn l0_2).1 m1_2 = Bool.true then some (Decidable.decide ((HH.fn (IntsO.fn l0_2).1 m1_2).1 ≥ h10_2), ())
 else none))
 else (if HH.pre (IntsO.fn l0_2).1 m1_2 = Bool.true then some (Decidable.decide ((HH.fn (IntsO.fn l0_2).1 m1_2).1 ≥ h10_2), ())
 else none))
 else none)
 else none)
 else (if HH.pre (IntsO.fn l0_2).1 m1_2 = Bool.true then some (Decidable.decide ((HH.fn (IntsO.fn l0_2).1 m1_2).1 ≥ h10_2), ())
 else none))
 else none)))))
 else none)
 else some (Bool.false, ()))
 else none)
 else none)
 else none)
 else (if IntsO.pre l0_2 = Bool.true then (if (List.length (IntsO.fn l0_2).1 + List.length [at2_2]) * (8 : Nat) ≤ (140737488355328 : Nat) then (if HH.pre ((IntsO.fn l0_2).1 ++ [at2_2]) m1_2 = Bool.true then (if Decidable.decide ((HH.fn ((IntsO.fn l0_2).1 ++ [at2_2]) m1_2).1 < h10_2) = Bool.false then (if HH.pre l0_2 m1_2 = Bool.true then (if Decidable.decide ((HH.fn l0_2 m1_2).1 < h10_2) = Bool.true then some (Bool.false, ())
 else (if ((↑(List.length l0_2) : Int) == (0 : Int)) = Bool.true then some (Bool.true, ())
 else (if (↑(List.length l0_2) : Int) = (0 : Int) then none
 else (if (↑(List.length l0_2) : Int) = (0 : Int) then none
 else (if IntsO.pre l0_2 = Bool.true then (if Decidable.decide (by3_2 > (0 : Int)) = Bool.true then (if (0 : Int) ≤ Int.tmod (IntKind.wrap .i64 (Int.tmod at2_2 (↑(List.length l0_2) : Int) + (↑(List.length l0_2) : Int))) (↑(List.length l0_2) : Int) then (if Int.tmod (IntKind.wrap .i64 (Int.tmod at2_2 (↑(List.length l0_2) : Int) + (↑(List.length l0_2) : Int))) (↑(List.length l0_2) : Int) < (↑(List.length (IntsO.fn l0_2).1) : Int) then (if Decidable.decide (List.getD (IntsO.fn l0_2).1 (Int.toNat (Int.tmod (IntKind.wrap .i64 (Int.tmod at2_2 (↑(List.length l0_2) : Int) + (↑(List.length l0_2) : Int))) (↑(List.length l0_2) : Int))) (0 : Int) < (4611686018427387904 : Int)) = Bool.true then (if Decidable.decide (by3_2 < (4611686018427387904 : Int)) = Bool.true then (if (0 : Int) ≤ Int.tmod (IntKind.wrap .i64 (Int.tmod at2_2 (↑(List.length l0_2) : Int) + (↑(List.length l0_2) : Int))) (↑(List.length l0_2) : Int) then (if Int.tmod (IntKind.wrap .i64 (Int.tmod at2_2 (↑(List.length l0_2) : Int) + (↑(List.length l0_2) : Int))) (↑(List.length l0_2) : Int) < (↑(List.length (IntsO.fn l0_2).1) : Int) then (if (0 : Int) ≤ Int.tmod (IntKind.wrap .i64 (Int.tmod at2_2 (↑(List.length l0_2) : Int) + (↑(List.length l0_2) : Int))) (↑(List.length l0_2) : Int) then (if Int.tmod (IntKind.wrap .i64 (Int.tmod at2_2 (↑(List.length l0_2) : Int) + (↑(List.length l0_2) : Int))) (↑(List.length l0_2) : Int) < (↑(List.length (IntsO.fn l0_2).1) : Int) then (if Int.toNat (Int.tmod (IntKind.wrap .i64 (Int.tmod at2_2 (↑(List.length l0_2) : Int) + (↑(List.length l0_2) : Int))) (↑(List.length l0_2) : Int)) < List.length (IntsO.fn l0_2).1 then (if HH.pre (List.set (IntsO.fn l0_2).1 (Int.toNat (Int.tmod (IntKind.wrap .i64 (Int.tmod at2_2 (↑(List.length l0_2) : Int) + (↑(List.length l0_2) : Int))) (↑(List.length l0_2) : Int))) (IntKind.wrap .i64 (List.getD (IntsO.fn l0_2).1 (Int.toNat (Int.tmod (IntKind.wrap .i64 (Int.tmod at2_2 (↑(List.length l0_2) : Int) + (↑(List.length l0_2) : Int))) (↑(List.length l0_2) : Int))) (0 : Int) + by3_2))) m1_2 = Bool.true then some (Decidable.decide ((HH.fn (List.set (IntsO.fn l0_2).1 (Int.toNat (Int.tmod (IntKind.wrap .i64 (Int.tmod at2_2 (↑(List.length l0_2) : Int) + (↑(List.length l0_2) : Int))) (↑(List.length l0_2) : Int))) (IntKind.wrap .i64 (List.getD (IntsO.fn l0_2).1 (Int.toNat (Int.tmod (IntKind.wrap .i64 (Int.tmod at2_2 (↑(List.length l0_2) : Int) + (↑(List.length l0_2) : Int))) (↑(List.length l0_2) : Int))) (0 : Int) + by3_2))) m1_2).1 ≥ h10_2), ())
 else none)
 else none)
 else none)
 else none)
 else none)
 else none)
 else (if HH.pre (IntsO.fn l0_2).1 m1_2 = Bool.true then some (Decidable.decide ((HH.fn (IntsO.fn l0_2).1 m1_2).1 ≥ h10_2), ())
 else none))
 else (if HH.pre (IntsO.fn l0_2).1 m1_2 = Bool.true then some (Decidable.decide ((HH.fn (IntsO.fn l0_2).1 m1_2).1 ≥ h10_2), ())
 else none))
 else none)
 else none)
 else (if HH.pre (IntsO.fn l0_2).1 m1_2 = Bool.true then some (Decidable.decide ((HH.fn (IntsO.fn l0_2).1 m1_2).1 ≥ h10_2), ())
 else none))
 else none)))))
 else none)
 else some (Bool.false, ()))
 else none)
 else none)
 else none)))
 else some (Bool.false, ()))
 else none)
  | none => none)
 else none)
 else none))
 else (if (↑(List.length l0_1) : Int) = (↑(List.length l0_1) : Int) then (if Int.toNat (↑(List.length l0_1) : Int) * (8 : Nat) ≤ (140737488355328 : Nat) then (match F18 (l0_1) (m1_1) (at2_1) (by3_1) (h10_1) ((0 : Int)) (List.replicate (Int.toNat (↑(List.length l0_1) : Int)) (0 : Int)) with
  | some (((l0_3, m1_3, at2_3, by3_3, h10_3, _), (r0_3, _))) => (if HH.pre r0_3 m1_3 = Bool.true then (if ((HH.fn r0_3 m1_3).1 != h10_3) = Bool.false then (if Decidable.decide (h10_3 > (↑(List.length l0_3) : Int)) = Bool.true then some (Bool.false, ())
 else (if Decidable.decide (m1_3 < (4611686018427387904 : Int)) = Bool.true then (if IntsO.pre l0_3 = Bool.true then (if (List.length (IntsO.fn l0_3).1 + List.length [at2_3]) * (8 : Nat) ≤ (140737488355328 : Nat) then (if HH.pre ((IntsO.fn l0_3).1 ++ [at2_3]) m1_3 = Bool.true then (if Decidable.decide ((HH.fn ((IntsO.fn l0_3).1 ++ [at2_3]) m1_3).1 < h10_3) = Bool.false then (if HH.pre l0_3 (IntKind.wrap .i64 (m1_3 + (1 : Int))) = Bool.true then (if Decidable.decide ((HH.fn l0_3 (IntKind.wrap .i64 (m1_3 + (1 : Int)))).1 < h10_3) = Bool.true then some (Bool.false, ())
 else (if ((↑(List.length l0_3) : Int) == (0 : Int)) = Bool.true then some (Bool.true, ())
 else (if (↑(List.length l0_3) : Int) = (0 : Int) then none
 else (if (↑(List.length l0_3) : Int) = (0 : Int) then none
 else (if IntsO.pre l0_3 = Bool.true then (if Decidable.decide (by3_3 > (0 : Int)) = Bool.true then (if (0 : Int) ≤ Int.tmod (IntKind.wrap .i64 (Int.tmod at2_3 (↑(List.length l0_3) : Int) + (↑(List.length l0_3) : Int))) (↑(List.length l0_3) : Int) then (if Int.tmod (IntKind.wrap .i64 (Int.tmod at2_3 (↑(List.length l0_3) : Int) + (↑(List.length l0_3) : Int))) (↑(List.length l0_3) : Int) < (↑(List.length (IntsO.fn l0_3).1) : Int) then (if Decidable.decide (List.getD (IntsO.fn l0_3).1 (Int.toNat (Int.tmod (IntKind.wrap .i64 (Int.tmod at2_3 (↑(List.length l0_3) : Int) + (↑(List.length l0_3) : Int))) (↑(List.length l0_3) : Int))) (0 : Int) < (4611686018427387904 : Int)) = Bool.true then (if Decidable.decide (by3_3 < (4611686018427387904 : Int)) = Bool.true then (if (0 : Int) ≤ Int.tmod (IntKind.wrap .i64 (Int.tmod at2_3 (↑(List.length l0_3) : Int) + (↑(List.length l0_3) : Int))) (↑(List.length l0_3) : Int) then (if Int.tmod (IntKind.wrap .i64 (Int.tmod at2_3 (↑(List.length l0_3) : Int) + (↑(List.length l0_3) : Int))) (↑(List.length l0_3) : Int) < (↑(List.length (IntsO.fn l0_3).1) : Int) then (if (0 : Int) ≤ Int.tmod (IntKind.wrap .i64 (Int.tmod at2_3 (↑(List.length l0_3) : Int) + (↑(List.length l0_3) : Int))) (↑(List.length l0_3) : Int) then (if Int.tmod (IntKind.wrap .i64 (Int.tmod at2_3 (↑(List.length l0_3) : Int) + (↑(List.length l0_3) : Int))) (↑(List.length l0_3) : Int) < (↑(List.length (IntsO.fn l0_3).1) : Int) then (if Int.toNat (Int.tmod (IntKind.wrap .i64 (Int.tmod at2_3 (↑(List.length l0_3) : Int) + (↑(List.length l0_3) : Int))) (↑(List.length l0_3) : Int)) < List.length (IntsO.fn l0_3).1 then (if HH.pre (List.set (IntsO.fn l0_3).1 (Int.toNat (Int.tmod (IntKind.wrap .i64 (Int.tmod at2_3 (↑(List.length l0_3) : Int) + (↑(List.length l0_3) : Int))) (↑(List.length l0_3) : Int))) (IntKind.wrap .i64 (List.getD (IntsO.fn l0_3).1 (Int.toNat (Int.tmod (IntKind.wrap .i64 (Int.tmod at2_3 (↑(List.length l0_3) : Int) + (↑(List.length l0_3) : Int))) (↑(List.length l0_3) : Int))) (0 : Int) + by3_3))) m1_3 = Bool.true then some (Decidable.decide ((HH.fn (List.set (IntsO.fn l0_3).1 (Int.toNat (Int.tmod (IntKind.wrap .i64 (Int.tmod at2_3 (↑(List.length l0_3) : Int) + (↑(List.length l0_3) : Int))) (↑(List.length l0_3) : Int))) (IntKind.wrap .i64 (List.getD (IntsO.fn l0_3).1 (Int.toNat (Int.tmod (IntKind.wrap .i64 (Int.tmod at2_3 (↑(List.length l0_3) : Int) + (↑(List.length l0_3) : Int))) (↑(List.length l0_3) : Int))) (0 : Int) + by3_3))) m1_3).1 ≥ h10_3), ())
 else none)
 else none)
 else none)
 else none)
 else none)
 else none)
 else (if HH.pre (IntsO.fn l0_3).1 m1_3 = Bool.true then some (Decidable.decide ((HH.fn (IntsO.fn l0_3).1 m1_3).1 ≥ h10_3), ())
 else none))
 else (if HH.pre (IntsO.fn l0_3).1 m1_3 = Bool.true then some (Decidable.decide ((HH.fn (IntsO.fn l0_3).1 m1_3).1 ≥ h10_3), ())
 else none))
 else none)
 else none)
 else (if HH.pre (IntsO.fn l0_3).1 m1_3 = Bool.true then some (Decidable.decide ((HH.fn (IntsO.fn l0_3).1 m1_3).1 ≥ h10_3), ())
 else none))
 else none)))))
 else none)
 else some (Bool.false, ()))
 else none)
 else none)
 else none)
 else (if IntsO.pre l0_3 = Bool.true then (if (List.length (IntsO.fn l0_3).1 + List.length [at2_3]) * (8 : Nat) ≤ (140737488355328 : Nat) then (if HH.pre ((IntsO.fn l0_3).1 ++ [at2_3]) m1_3 = Bool.true then (if Decidable.decide ((HH.fn ((IntsO.fn l0_3).1 ++ [at2_3]) m1_3).1 < h10_3) = Bool.false then (if HH.pre l0_3 m1_3 = Bool.true then (if Decidable.decide ((HH.fn l0_3 m1_3).1 < h10_3) = Bool.true then some (Bool.false, ())
 else (if ((↑(List.length l0_3) : Int) == (0 : Int)) = Bool.true then some (Bool.true, ())
 else (if (↑(List.length l0_3) : Int) = (0 : Int) then none
 else (if (↑(List.length l0_3) : Int) = (0 : Int) then none
 else (if IntsO.pre l0_3 = Bool.true then (if Decidable.decide (by3_3 > (0 : Int)) = Bool.true then (if (0 : Int) ≤ Int.tmod (IntKind.wrap .i64 (Int.tmod at2_3 (↑(List.length l0_3) : Int) + (↑(List.length l0_3) : Int))) (↑(List.length l0_3) : Int) then (if Int.tmod (IntKind.wrap .i64 (Int.tmod at2_3 (↑(List.length l0_3) : Int) + (↑(List.length l0_3) : Int))) (↑(List.length l0_3) : Int) < (↑(List.length (IntsO.fn l0_3).1) : Int) then (if Decidable.decide (List.getD (IntsO.fn l0_3).1 (Int.toNat (Int.tmod (IntKind.wrap .i64 (Int.tmod at2_3 (↑(List.length l0_3) : Int) + (↑(List.length l0_3) : Int))) (↑(List.length l0_3) : Int))) (0 : Int) < (4611686018427387904 : Int)) = Bool.true then (if Decidable.decide (by3_3 < (4611686018427387904 : Int)) = Bool.true then (if (0 : Int) ≤ Int.tmod (IntKind.wrap .i64 (Int.tmod at2_3 (↑(List.length l0_3) : Int) + (↑(List.length l0_3) : Int))) (↑(List.length l0_3) : Int) then (if Int.tmod (IntKind.wrap .i64 (Int.tmod at2_3 (↑(List.length l0_3) : Int) + (↑(List.length l0_3) : Int))) (↑(List.length l0_3) : Int) < (↑(List.length (IntsO.fn l0_3).1) : Int) then (if (0 : Int) ≤ Int.tmod (IntKind.wrap .i64 (Int.tmod at2_3 (↑(List.length l0_3) : Int) + (↑(List.length l0_3) : Int))) (↑(List.length l0_3) : Int) then (if Int.tmod (IntKind.wrap .i64 (Int.tmod at2_3 (↑(List.length l0_3) : Int) + (↑(List.length l0_3) : Int))) (↑(List.length l0_3) : Int) < (↑(List.length (IntsO.fn l0_3).1) : Int) then (if Int.toNat (Int.tmod (IntKind.wrap .i64 (Int.tmod at2_3 (↑(List.length l0_3) : Int) + (↑(List.length l0_3) : Int))) (↑(List.length l0_3) : Int)) < List.length (IntsO.fn l0_3).1 then (if HH.pre (List.set (IntsO.fn l0_3).1 (Int.toNat (Int.tmod (IntKind.wrap .i64 (Int.tmod at2_3 (↑(List.length l0_3) : Int) + (↑(List.length l0_3) : Int))) (↑(List.length l0_3) : Int))) (IntKind.wrap .i64 (List.getD (IntsO.fn l0_3).1 (Int.toNat (Int.tmod (IntKind.wrap .i64 (Int.tmod at2_3 (↑(List.length l0_3) : Int) + (↑(List.length l0_3) : Int))) (↑(List.length l0_3) : Int))) (0 : Int) + by3_3))) m1_3 = Bool.true then some (Decidable.decide ((HH.fn (List.set (IntsO.fn l0_3).1 (Int.toNat (Int.tmod (IntKind.wrap .i64 (Int.tmod at2_3 (↑(List.length l0_3) : Int) + (↑(List.length l0_3) : Int))) (↑(List.length l0_3) : Int))) (IntKind.wrap .i64 (List.getD (IntsO.fn l0_3).1 (Int.toNat (Int.tmod (IntKind.wrap .i64 (Int.tmod at2_3 (↑(List.length l0_3) : Int) + (↑(List.length l0_3) : Int))) (↑(List.length l0_3) : Int))) (0 : Int) + by3_3))) m1_3).1 ≥ h10_3), ())
 else none)
 else none)
 else none)
 else none)
 else none)
 else none)
 else (if HH.pre (IntsO.fn l0_3).1 m1_3 = Bool.true then some (Decidable.decide ((HH.fn (IntsO.fn l0_3).1 m1_3).1 ≥ h10_3), ())
 else none))
 else (if HH.pre (IntsO.fn l0_3).1 m1_3 = Bool.true then some (Decidable.decide ((HH.fn (IntsO.fn l0_3).1 m1_3).1 ≥ h10_3), ())
 else none))
 else none)
 else none)
 else (if HH.pre (IntsO.fn l0_3).1 m1_3 = Bool.true then some (Decidable.decide ((HH.fn (IntsO.fn l0_3).1 m1_3).1 ≥ h10_3), ())
 else none))
 else none)))))
 else none)
 else some (Bool.false, ()))
 else none)
 else none)
 else none)))
 else some (Bool.false, ()))
 else none)
  | none => none)
 else none)
 else none))
 else some (Bool.false, ()))
 else (if Decidable.decide (h10_1 < m1_1) = Bool.true then (if Decidable.decide (more12_1 > h10_1) = Bool.true then some (Bool.false, ())
 else (if (↑(List.length l0_1) : Int) = (↑(List.length l0_1) : Int) then (if Int.toNat (↑(List.length l0_1) : Int) * (8 : Nat) ≤ (140737488355328 : Nat) then (match F18 (l0_1) (m1_1) (at2_1) (by3_1) (h10_1) ((0 : Int)) (List.replicate (Int.toNat (↑(List.length l0_1) : Int)) (0 : Int)) with
  | some (((l0_4, m1_4, at2_4, by3_4, h10_4, _), (r0_4, _))) => (if HH.pre r0_4 m1_4 = Bool.true then (if ((HH.fn r0_4 m1_4).1 != h10_4) = Bool.false then (if Decidable.decide (h10_4 > (↑(List.length l0_4) : Int)) = Bool.true then some (Bool.false, ())
 else (if Decidable.decide (m1_4 < (4611686018427387904 : Int)) = Bool.true then (if IntsO.pre l0_4 = Bool.true then (if (List.length (IntsO.fn l0_4).1 + List.length [at2_4]) * (8 : Nat) ≤ (140737488355328 : Nat) then (if HH.pre ((IntsO.fn l0_4).1 ++ [at2_4]) m1_4 = Bool.true then (if Decidable.decide ((HH.fn ((IntsO.fn l0_4).1 ++ [at2_4]) m1_4).1 < h10_4) = Bool.false then (if HH.pre l0_4 (IntKind.wrap .i64 (m1_4 + (1 : Int))) = Bool.true then (if Decidable.decide ((HH.fn l0_4 (IntKind.wrap .i64 (m1_4 + (1 : Int)))).1 < h10_4) = Bool.true then some (Bool.false, ())
 else (if ((↑(List.length l0_4) : Int) == (0 : Int)) = Bool.true then some (Bool.true, ())
 else (if (↑(List.length l0_4) : Int) = (0 : Int) then none
 else (if (↑(List.length l0_4) : Int) = (0 : Int) then none
 else (if IntsO.pre l0_4 = Bool.true then (if Decidable.decide (by3_4 > (0 : Int)) = Bool.true then (if (0 : Int) ≤ Int.tmod (IntKind.wrap .i64 (Int.tmod at2_4 (↑(List.length l0_4) : Int) + (↑(List.length l0_4) : Int))) (↑(List.length l0_4) : Int) then (if Int.tmod (IntKind.wrap .i64 (Int.tmod at2_4 (↑(List.length l0_4) : Int) + (↑(List.length l0_4) : Int))) (↑(List.length l0_4) : Int) < (↑(List.length (IntsO.fn l0_4).1) : Int) then (if Decidable.decide (List.getD (IntsO.fn l0_4).1 (Int.toNat (Int.tmod (IntKind.wrap .i64 (Int.tmod at2_4 (↑(List.length l0_4) : Int) + (↑(List.length l0_4) : Int))) (↑(List.length l0_4) : Int))) (0 : Int) < (4611686018427387904 : Int)) = Bool.true then (if Decidable.decide (by3_4 < (4611686018427387904 : Int)) = Bool.true then (if (0 : Int) ≤ Int.tmod (IntKind.wrap .i64 (Int.tmod at2_4 (↑(List.length l0_4) : Int) + (↑(List.length l0_4) : Int))) (↑(List.length l0_4) : Int) then (if Int.tmod (IntKind.wrap .i64 (Int.tmod at2_4 (↑(List.length l0_4) : Int) + (↑(List.length l0_4) : Int))) (↑(List.length l0_4) : Int) < (↑(List.length (IntsO.fn l0_4).1) : Int) then (if (0 : Int) ≤ Int.tmod (IntKind.wrap .i64 (Int.tmod at2_4 (↑(List.length l0_4) : Int) + (↑(List.length l0_4) : Int))) (↑(List.length l0_4) : Int) then (if Int.tmod (IntKind.wrap .i64 (Int.tmod at2_4 (↑(List.length l0_4) : Int) + (↑(List.length l0_4) : Int))) (↑(List.length l0_4) : Int) < (↑(List.length (IntsO.fn l0_4).1) : Int) then (if Int.toNat (Int.tmod (IntKind.wrap .i64 (Int.tmod at2_4 (↑(List.length l0_4) : Int) + (↑(List.length l0_4) : Int))) (↑(List.length l0_4) : Int)) < List.length (IntsO.fn l0_4).1 then (if HH.pre (List.set (IntsO.fn l0_4).1 (Int.toNat (Int.tmod (IntKind.wrap .i64 (Int.tmod at2_4 (↑(List.length l0_4) : Int) + (↑(List.length l0_4) : Int))) (↑(List.length l0_4) : Int))) (IntKind.wrap .i64 (List.getD (IntsO.fn l0_4).1 (Int.toNat (Int.tmod (IntKind.wrap .i64 (Int.tmod at2_4 (↑(List.length l0_4) : Int) + (↑(List.length l0_4) : Int))) (↑(List.length l0_4) : Int))) (0 : Int) + by3_4))) m1_4 = Bool.true then some (Decidable.decide ((HH.fn (List.set (IntsO.fn l0_4).1 (Int.toNat (Int.tmod (IntKind.wrap .i64 (Int.tmod at2_4 (↑(List.length l0_4) : Int) + (↑(List.length l0_4) : Int))) (↑(List.length l0_4) : Int))) (IntKind.wrap .i64 (List.getD (IntsO.fn l0_4).1 (Int.toNat (Int.tmod (IntKind.wrap .i64 (Int.tmod at2_4 (↑(List.length l0_4) : Int) + (↑(List.length l0_4) : Int))) (↑(List.length l0_4) : Int))) (0 : Int) + by3_4))) m1_4).1 ≥ h10_4), ())
 else none)
 else none)
 else none)
 else none)
 else none)
 else none)
 else (if HH.pre (IntsO.fn l0_4).1 m1_4 = Bool.true then some (Decidable.decide ((HH.fn (IntsO.fn l0_4).1 m1_4).1 ≥ h10_4), ())
 else none))
 else (if HH.pre (IntsO.fn l0_4).1 m1_4 = Bool.true then some (Decidable.decide ((HH.fn (IntsO.fn l0_4).1 m1_4).1 ≥ h10_4), ())
 else none))
 else none)
 else none)
 else (if HH.pre (IntsO.fn l0_4).1 m1_4 = Bool.true then some (Decidable.decide ((HH.fn (IntsO.fn l0_4).1 m1_4).1 ≥ h10_4), ())
 else none))
 else none)))))
 else none)
 else some (Bool.false, ()))
 else none)
 else none)
 else none)
 else (if IntsO.pre l0_4 = Bool.true then (if (List.length (IntsO.fn l0_4).1 + List.length [at2_4]) * (8 : Nat) ≤ (140737488355328 : Nat) then (if HH.pre ((IntsO.fn l0_4).1 ++ [at2_4]) m1_4 = Bool.true then (if Decidable.decide ((HH.fn ((IntsO.fn l0_4).1 ++ [at2_4]) m1_4).1 < h10_4) = Bool.false then (if HH.pre l0_4 m1_4 = Bool.true then (if Decidable.decide ((HH.fn l0_4 m1_4).1 < h10_4) = Bool.true then some (Bool.false, ())
 else (if ((↑(List.length l0_4) : Int) == (0 : Int)) = Bool.true then some (Bool.true, ())
 else (if (↑(List.length l0_4) : Int) = (0 : Int) then none
 else (if (↑(List.length l0_4) : Int) = (0 : Int) then none
 else (if IntsO.pre l0_4 = Bool.true then (if Decidable.decide (by3_4 > (0 : Int)) = Bool.true then (if (0 : Int) ≤ Int.tmod (IntKind.wrap .i64 (Int.tmod at2_4 (↑(List.length l0_4) : Int) + (↑(List.length l0_4) : Int))) (↑(List.length l0_4) : Int) then (if Int.tmod (IntKind.wrap .i64 (Int.tmod at2_4 (↑(List.length l0_4) : Int) + (↑(List.length l0_4) : Int))) (↑(List.length l0_4) : Int) < (↑(List.length (IntsO.fn l0_4).1) : Int) then (if Decidable.decide (List.getD (IntsO.fn l0_4).1 (Int.toNat (Int.tmod (IntKind.wrap .i64 (Int.tmod at2_4 (↑(List.length l0_4) : Int) + (↑(List.length l0_4) : Int))) (↑(List.length l0_4) : Int))) (0 : Int) < (4611686018427387904 : Int)) = Bool.true then (if Decidable.decide (by3_4 < (4611686018427387904 : Int)) = Bool.true then (if (0 : Int) ≤ Int.tmod (IntKind.wrap .i64 (Int.tmod at2_4 (↑(List.length l0_4) : Int) + (↑(List.length l0_4) : Int))) (↑(List.length l0_4) : Int) then (if Int.tmod (IntKind.wrap .i64 (Int.tmod at2_4 (↑(List.length l0_4) : Int) + (↑(List.length l0_4) : Int))) (↑(List.length l0_4) : Int) < (↑(List.length (IntsO.fn l0_4).1) : Int) then (if (0 : Int) ≤ Int.tmod (IntKind.wrap .i64 (Int.tmod at2_4 (↑(List.length l0_4) : Int) + (↑(List.length l0_4) : Int))) (↑(List.length l0_4) : Int) then (if Int.tmod (IntKind.wrap .i64 (Int.tmod at2_4 (↑(List.length l0_4) : Int) + (↑(List.length l0_4) : Int))) (↑(List.length l0_4) : Int) < (↑(List.length (IntsO.fn l0_4).1) : Int) then (if Int.toNat (Int.tmod (IntKind.wrap .i64 (Int.tmod at2_4 (↑(List.length l0_4) : Int) + (↑(List.length l0_4) : Int))) (↑(List.length l0_4) : Int)) < List.length (IntsO.fn l0_4).1 then (if HH.pre (List.set (IntsO.fn l0_4).1 (Int.toNat (Int.tmod (IntKind.wrap .i64 (Int.tmod at2_4 (↑(List.length l0_4) : Int) + (↑(List.length l0_4) : Int))) (↑(List.length l0_4) : Int))) (IntKind.wrap .i64 (List.getD (IntsO.fn l0_4).1 (Int.toNat (Int.tmod (IntKind.wrap .i64 (Int.tmod at2_4 (↑(List.length l0_4) : Int) + (↑(List.length l0_4) : Int))) (↑(List.length l0_4) : Int))) (0 : Int) + by3_4))) m1_4 = Bool.true then some (Decidable.decide ((HH.fn (List.set (IntsO.fn l0_4).1 (Int.toNat (Int.tmod (IntKind.wrap .i64 (Int.tmod at2_4 (↑(List.length l0_4) : Int) + (↑(List.length l0_4) : Int))) (↑(List.length l0_4) : Int))) (IntKind.wrap .i64 (List.getD (IntsO.fn l0_4).1 (Int.toNat (Int.tmod (IntKind.wrap .i64 (Int.tmod at2_4 (↑(List.length l0_4) : Int) + (↑(List.length l0_4) : Int))) (↑(List.length l0_4) : Int))) (0 : Int) + by3_4))) m1_4).1 ≥ h10_4), ())
 else none)
 else none)
 else none)
 else none)
 else none)
 else none)
 else (if HH.pre (IntsO.fn l0_4).1 m1_4 = Bool.true then some (Decidable.decide ((HH.fn (IntsO.fn l0_4).1 m1_4).1 ≥ h10_4), ())
 else none))
 else (if HH.pre (IntsO.fn l0_4).1 m1_4 = Bool.true then some (Decidable.decide ((HH.fn (IntsO.fn l0_4).1 m1_4).1 ≥ h10_4), ())
 else none))
 else none)
 else none)
 else (if HH.pre (IntsO.fn l0_4).1 m1_4 = Bool.true then some (Decidable.decide ((HH.fn (IntsO.fn l0_4).1 m1_4).1 ≥ h10_4), ())
 else none))
 else none)))))
 else none)
 else some (Bool.false, ()))
 else none)
 else none)
 else none)))
 else some (Bool.false, ()))
 else none)
  | none => none)
 else none)
 else none))
 else (if (↑(List.length l0_1) : Int) = (↑(List.length l0_1) : Int) then (if Int.toNat (↑(List.length l0_1) : Int) * (8 : Nat) ≤ (140737488355328 : Nat) then (match F18 (l0_1) (m1_1) (at2_1) (by3_1) (h10_1) ((0 : Int)) (List.replicate (Int.toNat (↑(List.length l0_1) : Int)) (0 : Int)) with
  | some (((l0_5, m1_5, at2_5, by3_5, h10_5, _), (r0_5, _))) => (if HH.pre r0_5 m1_5 = Bool.true then (if ((HH.fn r0_5 m1_5).1 != h10_5) = Bool.false then (if Decidable.decide (h10_5 > (↑(List.length l0_5) : Int)) = Bool.true then some (Bool.false, ())
 else (if Decidable.decide (m1_5 < (4611686018427387904 : Int)) = Bool.true then (if IntsO.pre l0_5 = Bool.true then (if (List.length (IntsO.fn l0_5).1 + List.length [at2_5]) * (8 : Nat) ≤ (140737488355328 : Nat) then (if HH.pre ((IntsO.fn l0_5).1 ++ [at2_5]) m1_5 = Bool.true then (if Decidable.decide ((HH.fn ((IntsO.fn l0_5).1 ++ [at2_5]) m1_5).1 < h10_5) = Bool.false then (if HH.pre l0_5 (IntKind.wrap .i64 (m1_5 + (1 : Int))) = Bool.true then (if Decidable.decide ((HH.fn l0_5 (IntKind.wrap .i64 (m1_5 + (1 : Int)))).1 < h10_5) = Bool.true then some (Bool.false, ())
 else (if ((↑(List.length l0_5) : Int) == (0 : Int)) = Bool.true then some (Bool.true, ())
 else (if (↑(List.length l0_5) : Int) = (0 : Int) then none
 else (if (↑(List.length l0_5) : Int) = (0 : Int) then none
 else (if IntsO.pre l0_5 = Bool.true then (if Decidable.decide (by3_5 > (0 : Int)) = Bool.true then (if (0 : Int) ≤ Int.tmod (IntKind.wrap .i64 (Int.tmod at2_5 (↑(List.length l0_5) : Int) + (↑(List.length l0_5) : Int))) (↑(List.length l0_5) : Int) then (if Int.tmod (IntKind.wrap .i64 (Int.tmod at2_5 (↑(List.length l0_5) : Int) + (↑(List.length l0_5) : Int))) (↑(List.length l0_5) : Int) < (↑(List.length (IntsO.fn l0_5).1) : Int) then (if Decidable.decide (List.getD (IntsO.fn l0_5).1 (Int.toNat (Int.tmod (IntKind.wrap .i64 (Int.tmod at2_5 (↑(List.length l0_5) : Int) + (↑(List.length l0_5) : Int))) (↑(List.length l0_5) : Int))) (0 : Int) < (4611686018427387904 : Int)) = Bool.true then (if Decidable.decide (by3_5 < (4611686018427387904 : Int)) = Bool.true then (if (0 : Int) ≤ Int.tmod (IntKind.wrap .i64 (Int.tmod at2_5 (↑(List.length l0_5) : Int) + (↑(List.length l0_5) : Int))) (↑(List.length l0_5) : Int) then (if Int.tmod (IntKind.wrap .i64 (Int.tmod at2_5 (↑(List.length l0_5) : Int) + (↑(List.length l0_5) : Int))) (↑(List.length l0_5) : Int) < (↑(List.length (IntsO.fn l0_5).1) : Int) then (if (0 : Int) ≤ Int.tmod (IntKind.wrap .i64 (Int.tmod at2_5 (↑(List.length l0_5) : Int) + (↑(List.length l0_5) : Int))) (↑(List.length l0_5) : Int) then (if Int.tmod (IntKind.wrap .i64 (Int.tmod at2_5 (↑(List.length l0_5) : Int) + (↑(List.length l0_5) : Int))) (↑(List.length l0_5) : Int) < (↑(List.length (IntsO.fn l0_5).1) : Int) then (if Int.toNat (Int.tmod (IntKind.wrap .i64 (Int.tmod at2_5 (↑(List.length l0_5) : Int) + (↑(List.length l0_5) : Int))) (↑(List.length l0_5) : Int)) < List.length (IntsO.fn l0_5).1 then (if HH.pre (List.set (IntsO.fn l0_5).1 (Int.toNat (Int.tmod (IntKind.wrap .i64 (Int.tmod at2_5 (↑(List.length l0_5) : Int) + (↑(List.length l0_5) : Int))) (↑(List.length l0_5) : Int))) (IntKind.wrap .i64 (List.getD (IntsO.fn l0_5).1 (Int.toNat (Int.tmod (IntKind.wrap .i64 (Int.tmod at2_5 (↑(List.length l0_5) : Int) + (↑(List.length l0_5) : Int))) (↑(List.length l0_5) : Int))) (0 : Int) + by3_5))) m1_5 = Bool.true then some (Decidable.decide ((HH.fn (List.set (IntsO.fn l0_5).1 (Int.toNat (Int.tmod (IntKind.wrap .i64 (Int.tmod at2_5 (↑(List.length l0_5) : Int) + (↑(List.length l0_5) : Int))) (↑(List.length l0_5) : Int))) (IntKind.wrap .i64 (List.getD (IntsO.fn l0_5).1 (Int.toNat (Int.tmod (IntKind.wrap .i64 (Int.tmod at2_5 (↑(List.length l0_5) : Int) + (↑(List.length l0_5) : Int))) (↑(List.length l0_5) : Int))) (0 : Int) + by3_5))) m1_5).1 ≥ h10_5), ())
 else none)
 else none)
 else none)
 else none)
 else none)
 else none)
 else (if HH.pre (IntsO.fn l0_5).1 m1_5 = Bool.true then some (Decidable.decide ((HH.fn (IntsO.fn l0_5).1 m1_5).1 ≥ h10_5), ())
 else none))
 else (if HH.pre (IntsO.fn l0_5).1 m1_5 = Bool.true then some (Decidable.decide ((HH.fn (IntsO.fn l0_5).1 m1_5).1 ≥ h10_5), ())
 else none))
 else none)
 else none)
 else (if HH.pre (IntsO.fn l0_5).1 m1_5 = Bool.true then some (Decidable.decide ((HH.fn (IntsO.fn l0_5).1 m1_5).1 ≥ h10_5), ())
 else none))
 else none)))))
 else none)
 else some (Bool.false, ()))
 else none)
 else none)
 else none)
 else (if IntsO.pre l0_5 = Bool.true then (if (List.length (IntsO.fn l0_5).1 + List.length [at2_5]) * (8 : Nat) ≤ (140737488355328 : Nat) then (if HH.pre ((IntsO.fn l0_5).1 ++ [at2_5]) m1_5 = Bool.true then (if Decidable.decide ((HH.fn ((IntsO.fn l0_5).1 ++ [at2_5]) m1_5).1 < h10_5) = Bool.false then (if HH.pre l0_5 m1_5 = Bool.true then (if Decidable.decide ((HH.fn l0_5 m1_5).1 < h10_5) = Bool.true then some (Bool.false, ())
 else (if ((↑(List.length l0_5) : Int) == (0 : Int)) = Bool.true then some (Bool.true, ())
 else (if (↑(List.length l0_5) : Int) = (0 : Int) then none
 else (if (↑(List.length l0_5) : Int) = (0 : Int) then none
 else (if IntsO.pre l0_5 = Bool.true then (if Decidable.decide (by3_5 > (0 : Int)) = Bool.true then (if (0 : Int) ≤ Int.tmod (IntKind.wrap .i64 (Int.tmod at2_5 (↑(List.length l0_5) : Int) + (↑(List.length l0_5) : Int))) (↑(List.length l0_5) : Int) then (if Int.tmod (IntKind.wrap .i64 (Int.tmod at2_5 (↑(List.length l0_5) : Int) + (↑(List.length l0_5) : Int))) (↑(List.length l0_5) : Int) < (↑(List.length (IntsO.fn l0_5).1) : Int) then (if Decidable.decide (List.getD (IntsO.fn l0_5).1 (Int.toNat (Int.tmod (IntKind.wrap .i64 (Int.tmod at2_5 (↑(List.length l0_5) : Int) + (↑(List.length l0_5) : Int))) (↑(List.length l0_5) : Int))) (0 : Int) < (4611686018427387904 : Int)) = Bool.true then (if Decidable.decide (by3_5 < (4611686018427387904 : Int)) = Bool.true then (if (0 : Int) ≤ Int.tmod (IntKind.wrap .i64 (Int.tmod at2_5 (↑(List.length l0_5) : Int) + (↑(List.length l0_5) : Int))) (↑(List.length l0_5) : Int) then (if Int.tmod (IntKind.wrap .i64 (Int.tmod at2_5 (↑(List.length l0_5) : Int) + (↑(List.length l0_5) : Int))) (↑(List.length l0_5) : Int) < (↑(List.length (IntsO.fn l0_5).1) : Int) then (if (0 : Int) ≤ Int.tmod (IntKind.wrap .i64 (Int.tmod at2_5 (↑(List.length l0_5) : Int) + (↑(List.length l0_5) : Int))) (↑(List.length l0_5) : Int) then (if Int.tmod (IntKind.wrap .i64 (Int.tmod at2_5 (↑(List.length l0_5) : Int) + (↑(List.length l0_5) : Int))) (↑(List.length l0_5) : Int) < (↑(List.length (IntsO.fn l0_5).1) : Int) then (if Int.toNat (Int.tmod (IntKind.wrap .i64 (Int.tmod at2_5 (↑(List.length l0_5) : Int) + (↑(List.length l0_5) : Int))) (↑(List.length l0_5) : Int)) < List.length (IntsO.fn l0_5).1 then (if HH.pre (List.set (IntsO.fn l0_5).1 (Int.toNat (Int.tmod (IntKind.wrap .i64 (Int.tmod at2_5 (↑(List.length l0_5) : Int) + (↑(List.length l0_5) : Int))) (↑(List.length l0_5) : Int))) (IntKind.wrap .i64 (List.getD (IntsO.fn l0_5).1 (Int.toNat (Int.tmod (IntKind.wrap .i64 (Int.tmod at2_5 (↑(List.length l0_5) : Int) + (↑(List.length l0_5) : Int))) (↑(List.length l0_5) : Int))) (0 : Int) + by3_5))) m1_5 = Bool.true then some (Decidable.decide ((HH.fn (List.set (IntsO.fn l0_5).1 (Int.toNat (Int.tmod (IntKind.wrap .i64 (Int.tmod at2_5 (↑(List.length l0_5) : Int) + (↑(List.length l0_5) : Int))) (↑(List.length l0_5) : Int))) (IntKind.wrap .i64 (List.getD (IntsO.fn l0_5).1 (Int.toNat (Int.tmod (IntKind.wrap .i64 (Int.tmod at2_5 (↑(List.length l0_5) : Int) + (↑(List.length l0_5) : Int))) (↑(List.length l0_5) : Int))) (0 : Int) + by3_5))) m1_5).1 ≥ h10_5), ())
 else none)
 else none)
 else none)
 else none)
 else none)
 else none)
 else (if HH.pre (IntsO.fn l0_5).1 m1_5 = Bool.true then some (Decidable.decide ((HH.fn (IntsO.fn l0_5).1 m1_5).1 ≥ h10_5), ())
 else none))
 else (if HH.pre (IntsO.fn l0_5).1 m1_5 = Bool.true then some (Decidable.decide ((HH.fn (IntsO.fn l0_5).1 m1_5).1 ≥ h10_5), ())
 else none))
 else none)
 else none)
 else (if HH.pre (IntsO.fn l0_5).1 m1_5 = Bool.true then some (Decidable.decide ((HH.fn (IntsO.fn l0_5).1 m1_5).1 ≥ h10_5), ())
 else none))
 else none)))))
 else none)
 else some (Bool.false, ()))
 else none)
 else none)
 else none)))
 else some (Bool.false, ()))
 else none)
  | none => none)
 else none)
 else none)))
 else some (Bool.false, ()))
 else some (Bool.false, ()))
  | none => none)
 else none))
 else some (first7.fn.1, ()))
 else none)
noncomputable def run (d : Ds (List.map PM.ty ps)) : Option (Ds (muts ps ++ List.map PM.ty rs)) := match d with
  | (l0, m1, at2, by3, _) => run' l0 m1 at2 by3
theorem run_is : ∀ d, runF env 175 code [8] ps rs d = run d := fun d => by kernel_rfl
theorem loops : LoopsOk env code := loopsOk_of (l := [[true, true, true, true, true, true, false, true, false, false], [true, true, true, true, true, true, true, true, true, false, true, false, false]]) (by kernel_rfl) (fun p hp => by
  simp only [List.mem_cons, List.not_mem_nil, or_false] at hp
  rcases hp with rfl | rfl
  · exact loopOk_lp (L := L8) (x := sub [true, true, true, true, true, true, false, true, false, false] code) (by kernel_rfl) (by simp [L8]) round8 ends8
  · exact loopOk_lp (L := L18) (x := sub [true, true, true, true, true, true, true, true, true, false, true, false, false] code) (by kernel_rfl) (by simp [L18]) round18 ends18
  )
noncomputable def pre (l0 : (List Int)) (m1 : Int) (at2 : Int) (by3 : Int) : Bool := (run' l0 m1 at2 by3).isSome
noncomputable def fn (l0 : (List Int)) (m1 : Int) (at2 : Int) (by3 : Int) : D := match run' l0 m1 at2 by3 with
  | some x => x
  | none => default
noncomputable def sig : Sig := ⟨ps, rs, fun d => match d with
  | (l0, m1, at2, by3, _) => pre l0 m1 at2 by3, fun d => match d with
  | (l0, m1, at2, by3, _) => fn l0 m1 at2 by3⟩
theorem run_fn (l0 : (List Int)) (m1 : Int) (at2 : Int) (by3 : Int) (h : pre l0 m1 at2 by3 = true) : run' l0 m1 at2 by3 = some (fn l0 m1 at2 by3) := by
  unfold pre at h
  unfold fn
  cases e : run' l0 m1 at2 by3 with
  | some x => rfl
  | none => rw [e] at h; cases h
theorem is_fn (l0 : (List Int)) (m1 : Int) (at2 : Int) (by3 : Int) {x : D} (h : run' l0 m1 at2 by3 = some x) : pre l0 m1 at2 by3 = true ∧ fn l0 m1 at2 by3 = x := by
  unfold pre fn
  rw [h]
  exact ⟨rfl, rfl⟩
theorem sound {ρ : Obs} (hE : EnvOk Go.Proofs.Try.prog ρ env) : Sound Go.Proofs.Try.prog ρ 17 sig := sound_of (fn := Go.Proofs.Try.f17) (c := code) (res := [8]) hE (by kernel_rfl) (by kernel_rfl) (by kernel_rfl) (by kernel_rfl) (by kernel_rfl) loops rfl (show 4 ≤ 175 by decide) (fun d hd => (run_is d).trans (by
  obtain ⟨l0, m1, at2, by3, _⟩ := d
  exact run_fn l0 m1 at2 by3 hd))
theorem enters : Enters Go.Proofs.Try.prog 17 := enters_of (fn := Go.Proofs.Try.f17) (by kernel_rfl) (by kernel_rfl) (by kernel_rfl)
theorem ok {ρ : Obs} (h : ∀ p ∈ ([(66, first7.sig), (67, IntsO.sig), (68, HH.sig)] : List (FuncId × Sig)), Enters Go.Proofs.Try.prog p.1 ∧ Sound Go.Proofs.Try.prog ρ p.1 p.2) : Enters Go.Proofs.Try.prog 17 ∧ Sound Go.Proofs.Try.prog ρ 17 sig := ⟨enters, sound (envOk_of tabOk h)⟩
theorem okR : Enters Go.Proofs.Try.prog 17 ∧ Sound Go.Proofs.Try.prog rho 17 sig := ok (fun p hp => by
  simp only [List.mem_cons, List.not_mem_nil, or_false] at hp
  rcases hp with rfl | rfl | rfl
  · exact first7.okR
  · exact IntsO.okR
  · exact HH.okR)
end HindexHolds
end Go.Proofs.Ythbojpaghbbnnaa.Z
