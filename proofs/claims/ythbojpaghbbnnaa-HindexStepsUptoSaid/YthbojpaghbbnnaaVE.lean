/- What functions compute from plain values: HindexLeft, HindexMany, HindexSteps. Printed by a small program of ours (zgen, zg.py); no condition. -/
import Derived.Test.YthbojpaghbbnnaaZN
import Derived.Test.YthbojpaghbbnnaaZT
import Derived.Test.YthbojpaghbbnnaaZP
import Derived.Test.YthbojpaghbbnnaaVT
import Derived.KernelRfl
namespace Go.Proofs.Ythbojpaghbbnnaa.Z
open Go Go.RowKit
set_option linter.unusedVariables false
set_option linter.unusedSimpArgs false
/-! pith/pithlaw7.HindexLeft -/
namespace HindexLeft
abbrev ps : List PM := [.val I64, .val (.list Pr), .val (.list I64), .val (.list I64)]
abbrev rs : List PM := [.val .bool]
noncomputable abbrev code : Code := (Go.Proofs.Try.f18.body.getD .skip)
abbrev s17 : Shape := ⟨[.v I64, .un, .v (.list I64), .v (.list I64), .un, .un, .un, .un, .un, .un, .v (.obj 0), .v (.list (.list I64)), .un, .un, .row 0, .un, .un, .un, .un, .un, .un, .un, .v I64, .v I64, .v I64, .un, .un, .un, .un, .un, .un, .un, .un, .un, .un, .un, .un, .un, .un, .un, .un, .un, .un, .un, .un, .un, .un, .un, .un, .un, .un, .un, .un, .un, .un, .un, .un, .un, .un, .un, .un, .un, .un, .un, .un, .un, .un, .un, .un, .un, .un, .un, .un, .un, .un, .un, .un, .un, .un, .un, .un, .un, .un, .un, .un, .un, .un, .un, .un, .un, .un, .un, .un, .un, .un, .un, .un, .un, .un, .un, .un, .un, .un, .un, .un, .un, .un, .un, .un, .un, .un, .un, .un, .un, .un, .un, .un, .un, .un, .un, .un, .un, .un, .un, .un, .un, .un, .un, .un, .un, .un, .un, .un, .un, .un, .un, .un, .un, .un, .un, .un, .un, .un, .un, .un, .un, .un, .un, .un, .un, .un, .un, .un, .un, .un, .un, .un, .un, .un, .un, .un, .un, .un, .un, .un, .un, .un, .un, .un, .un, .un, .un, .un, .un, .un, .un, .un, .un, .un, .un, .un, .un, .un, .un, .un, .un, .un, .un, .un, .un, .un, .un, .un, .un, .un, .un, .un, .un, .un, .un, .un, .un, .un, .un, .un, .un, .un, .un, .un, .un, .un, .un, .un, .un, .un, .un, .un], [.row (3 : Go.TypeId) I64]⟩
abbrev x17 : List Way := [⟨(.ex 2), ⟨[(0, none), (2, none), (3, none), (10, none), (11, none), (14, none), (22, none), (23, none)]⟩, ⟨[.v I64, .un, .v (.list I64), .v (.list I64), .un, .un, .un, .un, .un, .un, .v (.obj 0), .v (.list (.list I64)), .un, .un, .row 0, .un, .un, .un, .un, .un, .un, .un, .v I64, .v I64, .un, .un, .un, .un, .un, .un, .un, .un, .un, .un, .un, .un, .un, .un, .un, .un, .un, .un, .un, .un, .un, .un, .un, .un, .un, .un, .un, .un, .un, .un, .un, .un, .un, .un, .un, .un, .un, .un, .un, .un, .un, .un, .un, .un, .un, .un, .un, .un, .un, .un, .un, .un, .un, .un, .un, .un, .un, .un, .un, .un, .un, .un, .un, .un, .un, .un, .un, .un, .un, .un, .un, .un, .un, .un, .un, .un, .un, .un, .un, .un, .un, .un, .un, .un, .un, .un, .un, .un, .un, .un, .un, .un, .un, .un, .un, .un, .un, .un, .un, .un, .un, .un, .un, .un, .un, .un, .un, .un, .un, .un, .un, .un, .un, .un, .un, .un, .un, .un, .un, .un, .un, .un, .un, .un, .un, .un, .un, .un, .un, .un, .un, .un, .un, .un, .un, .un, .un, .un, .un, .un, .un, .un, .un, .un, .un, .un, .un, .un, .un, .un, .un, .un, .un, .un, .un, .un, .un, .un, .un, .un, .un, .un, .un, .un, .un, .un, .un, .un, .un, .un, .un, .un, .un, .un, .un, .un, .un, .un, .un, .un, .un, .un, .un, .un, .un, .un, .un, .un, .un, .un, .un, .un, .un], [.row (3 : Go.TypeId) I64]⟩⟩]
abbrev V17 : Type := (Int × (List Int) × (List Int) × (Option Gr) × (List (List Int)) × Int × Int × Int × Unit) × ((List Int) × Unit)
abbrev X17 : Type := (Int × (List Int) × (List Int) × (Option Gr) × (List (List Int)) × Int × Int × Unit) × ((List Int) × Unit)
noncomputable def R17 {R : Type} (n0 : Int) (est2 : (List Int)) (other3 : (List Int)) (g10 : (Option Gr)) (lists11 : (List (List Int))) (v22 : Int) (k23 : Int) (i24 : Int) (r0 : List Int) (k : V17 → Option R) (kx : X17 → Option R) : Option R := (if (0 : Int) ≤ v22 then (if v22 < (↑(List.length lists11) : Int) then (if Decidable.decide (i24 < (↑(List.length (List.getD lists11 (Int.toNat v22) [])) : Int)) = Bool.true then (if (0 : Int) ≤ v22 then (if v22 < (↑(List.length lists11) : Int) then (if (0 : Int) ≤ i24 then (if i24 < (↑(List.length (List.getD lists11 (Int.toNat v22) [])) : Int) then (if (0 : Int) ≤ List.getD (List.getD lists11 (Int.toNat v22) []) (Int.toNat i24) (0 : Int) then (if List.getD (List.getD lists11 (Int.toNat v22) []) (Int.toNat i24) (0 : Int) < (↑(List.length r0) : Int) then (if (0 : Int) ≤ v22 then (if v22 < (↑(List.length r0) : Int) then (if Decidable.decide (List.getD r0 (Int.toNat (List.getD (List.getD lists11 (Int.toNat v22) []) (Int.toNat i24) (0 : Int))) (0 : Int) ≥ List.getD r0 (Int.toNat v22) (0 : Int)) = Bool.true then k ((n0, est2, other3, g10, lists11, v22, IntKind.wrap .i64 (k23 + (1 : Int)), IntKind.wrap .i64 (i24 + (1 : Int)), ()), (r0, ()))
 else k ((n0, est2, other3, g10, lists11, v22, k23, IntKind.wrap .i64 (i24 + (1 : Int)), ()), (r0, ())))
 else none)
 else none)
 else none)
 else none)
 else none)
 else none)
 else none)
 else none)
 else kx (((n0, est2, other3, g10, lists11, v22, k23, ()), (r0, ()))))
 else none)
 else none)
noncomputable def rd17 : Rd (VO s17) (Xs x17) := fun v k kx => match v with
  | ((n0, est2, other3, g10, lists11, v22, k23, i24, _), (r0, _)) => R17 n0 est2 other3 g10 lists11 v22 k23 i24 r0 k kx
noncomputable def F17 (n0 : Int) (est2 : (List Int)) (other3 : (List Int)) (g10 : (Option Gr)) (lists11 : (List (List Int))) (v22 : Int) (k23 : Int) (i24 : Int) (r0 : List Int) : Option X17 := finOf rd17 ((n0, est2, other3, g10, lists11, v22, k23, i24, ()), (r0, ()))
theorem F17_inv {n0 : Int} {est2 : (List Int)} {other3 : (List Int)} {g10 : (Option Gr)} {lists11 : (List (List Int))} {v22 : Int} {r0 : List Int} (I : Int → Int → Prop) (μ : Int → Int → Nat) (Q : X17 → Prop) (h : ∀ (k23 : Int) (i24 : Int), I k23 i24 → Led (fun (R : Type) (k : V17 → Option R) (kx : X17 → Option R) => R17 n0 est2 other3 g10 lists11 v22 k23 i24 r0 k kx) (fun v => ∃ (k23' : Int) (i24' : Int), v = ((n0, est2, other3, g10, lists11, v22, k23', i24', ()), (r0, ())) ∧ I k23' i24' ∧ μ k23' i24' < μ k23 i24) Q) : ∀ (k23 : Int) (i24 : Int), I k23 i24 → ∃ z, F17 n0 est2 other3 g10 lists11 v22 k23 i24 r0 = some z ∧ Q z := fun k23 i24 hi => by
  refine finOf_inv (V := V17) (X := X17) (rd := rd17) (fun v => ∃ (k23' : Int) (i24' : Int), v = ((n0, est2, other3, g10, lists11, v22, k23', i24', ()), (r0, ())) ∧ I k23' i24') (fun v => match v with
    | ((n0, est2, other3, g10, lists11, v22, k23, i24, _), (r0, _)) => μ k23 i24) Q (fun v hv => ?_) ((n0, est2, other3, g10, lists11, v22, k23, i24, ()), (r0, ())) ⟨k23, i24, rfl, hi⟩
  obtain ⟨k23, i24, rfl, hi⟩ := hv
  refine led_mono (h k23 i24 hi) ?_ (fun _ q => q)
  rintro v ⟨k23', i24', rfl, h1, h2⟩
  exact ⟨⟨k23', i24', rfl, h1⟩, h2⟩
noncomputable def L17 : Lp := ⟨17, ⟨[(0, none), (2, none), (3, none), (10, none), (11, none), (14, none), (22, none), (23, none), (24, none)]⟩, s17, x17, fun v => match v with
  | ((n0, est2, other3, g10, lists11, v22, k23, i24, _), (r0, _)) => F17 n0 est2 other3 g10 lists11 v22 k23 i24 r0⟩
theorem ends17 : Ends L17 rd17 := ends_fin (fun v => by
  obtain ⟨⟨n0, est2, other3, g10, lists11, v22, k23, i24, _⟩, ⟨r0, _⟩⟩ := v
  rfl)
abbrev s13 : Shape := ⟨[.v I64, .un, .v (.list I64), .v (.list I64), .un, .un, .un, .un, .un, .un, .v (.obj 0), .v (.list (.list I64)), .un, .un, .row 0, .un, .un, .un, .un, .un, .un, .un, .v I64, .un, .un, .un, .un, .un, .un, .un, .un, .un, .un, .un, .un, .un, .un, .un, .un, .un, .un, .un, .un, .un, .un, .un, .un, .un, .un, .un, .un, .un, .un, .un, .un, .un, .un, .un, .un, .un, .un, .un, .un, .un, .un, .un, .un, .un, .un, .un, .un, .un, .un, .un, .un, .un, .un, .un, .un, .un, .un, .un, .un, .un, .un, .un, .un, .un, .un, .un, .un, .un, .un, .un, .un, .un, .un, .un, .un, .un, .un, .un, .un, .un, .un, .un, .un, .un, .un, .un, .un, .un, .un, .un, .un, .un, .un, .un, .un, .un, .un, .un, .un, .un, .un, .un, .un, .un, .un, .un, .un, .un, .un, .un, .un, .un, .un, .un, .un, .un, .un, .un, .un, .un, .un, .un, .un, .un, .un, .un, .un, .un, .un, .un, .un, .un, .un, .un, .un, .un, .un, .un, .un, .un, .un, .un, .un, .un, .un, .un, .un, .un, .un, .un, .un, .un, .un, .un, .un, .un, .un, .un, .un, .un, .un, .un, .un, .un, .un, .un, .un, .un, .un, .un, .un, .un, .un, .un, .un, .un, .un, .un, .un, .un, .un, .un, .un, .un, .un, .un, .un, .un, .un, .un, .un, .un, .un], [.row (3 : Go.TypeId) I64]⟩
abbrev x13 : List Way := [⟨.rt, ⟨[(8, none)]⟩, ⟨[.un, .un, .un, .un, .un, .un, .un, .un, .v .bool, .un, .un, .un, .un, .un, .un, .un, .un, .un, .un, .un, .un, .un, .un, .un, .un, .un, .un, .un, .un, .un, .un, .un, .un, .un, .un, .un, .un, .un, .un, .un, .un, .un, .un, .un, .un, .un, .un, .un, .un, .un, .un, .un, .un, .un, .un, .un, .un, .un, .un, .un, .un, .un, .un, .un, .un, .un, .un, .un, .un, .un, .un, .un, .un, .un, .un, .un, .un, .un, .un, .un, .un, .un, .un, .un, .un, .un, .un, .un, .un, .un, .un, .un, .un, .un, .un, .un, .un, .un, .un, .un, .un, .un, .un, .un, .un, .un, .un, .un, .un, .un, .un, .un, .un, .un, .un, .un, .un, .un, .un, .un, .un, .un, .un, .un, .un, .un, .un, .un, .un, .un, .un, .un, .un, .un, .un, .un, .un, .un, .un, .un, .un, .un, .un, .un, .un, .un, .un, .un, .un, .un, .un, .un, .un, .un, .un, .un, .un, .un, .un, .un, .un, .un, .un, .un, .un, .un, .un, .un, .un, .un, .un, .un, .un, .un, .un, .un, .un, .un, .un, .un, .un, .un, .un, .un, .un, .un, .un, .un, .un, .un, .un, .un, .un, .un, .un, .un, .un, .un, .un, .un, .un, .un, .un, .un, .un, .un, .un, .un, .un, .un, .un, .un, .un, .un, .un, .un, .un], []⟩⟩, ⟨(.ex 0), ⟨[(0, none), (2, none), (3, none), (10, none), (14, none)]⟩, ⟨[.v I64, .un, .v (.list I64), .v (.list I64), .un, .un, .un, .un, .un, .un, .v (.obj 0), .un, .un, .un, .row 0, .un, .un, .un, .un, .un, .un, .un, .un, .un, .un, .un, .un, .un, .un, .un, .un, .un, .un, .un, .un, .un, .un, .un, .un, .un, .un, .un, .un, .un, .un, .un, .un, .un, .un, .un, .un, .un, .un, .un, .un, .un, .un, .un, .un, .un, .un, .un, .un, .un, .un, .un, .un, .un, .un, .un, .un, .un, .un, .un, .un, .un, .un, .un, .un, .un, .un, .un, .un, .un, .un, .un, .un, .un, .un, .un, .un, .un, .un, .un, .un, .un, .un, .un, .un, .un, .un, .un, .un, .un, .un, .un, .un, .un, .un, .un, .un, .un, .un, .un, .un, .un, .un, .un, .un, .un, .un, .un, .un, .un, .un, .un, .un, .un, .un, .un, .un, .un, .un, .un, .un, .un, .un, .un, .un, .un, .un, .un, .un, .un, .un, .un, .un, .un, .un, .un, .un, .un, .un, .un, .un, .un, .un, .un, .un, .un, .un, .un, .un, .un, .un, .un, .un, .un, .un, .un, .un, .un, .un, .un, .un, .un, .un, .un, .un, .un, .un, .un, .un, .un, .un, .un, .un, .un, .un, .un, .un, .un, .un, .un, .un, .un, .un, .un, .un, .un, .un, .un, .un, .un, .un, .un, .un, .un, .un, .un, .un, .un, .un, .un, .un, .un, .un], [.row (3 : Go.TypeId) I64]⟩⟩]
abbrev V13 : Type := (Int × (List Int) × (List Int) × (Option Gr) × (List (List Int)) × Int × Unit) × ((List Int) × Unit)
abbrev X13 : Type := ((Bool × Unit) × (Unit)) ⊕ ((Int × (List Int) × (List Int) × (Option Gr) × Unit) × ((List Int) × Unit))
noncomputable def R13 {R : Type} (n0 : Int) (est2 : (List Int)) (other3 : (List Int)) (g10 : (Option Gr)) (lists11 : (List (List Int))) (v22 : Int) (r0 : List Int) (k : V13 → Option R) (kx : X13 → Option R) : Option R := (if Decidable.decide (v22 < n0) = Bool.true then (match F17 (n0) (est2) (other3) (g10) (lists11) (v22) ((0 : Int)) ((0 : Int)) (r0) with
  | some (((n0_1, est2_1, other3_1, g10_1, lists11_1, v22_1, k23_1, _), (r0_1, _))) => (if (0 : Int) ≤ v22_1 then (if v22_1 < (↑(List.length r0_1) : Int) then (if Decidable.decide (List.getD r0_1 (Int.toNat v22_1) (0 : Int) < (0 : Int)) = Bool.false then (if (0 : Int) ≤ v22_1 then (if v22_1 < (↑(List.length r0_1) : Int) then (if (0 : Int) ≤ v22_1 then (if v22_1 < (↑(List.length est2_1) : Int) then (if Decidable.decide (List.getD r0_1 (Int.toNat v22_1) (0 : Int) > List.getD est2_1 (Int.toNat v22_1) (0 : Int)) = Bool.false then (if (0 : Int) ≤ v22_1 then (if v22_1 < (↑(List.length r0_1) : Int) then (if Decidable.decide (k23_1 < List.getD r0_1 (Int.toNat v22_1) (0 : Int)) = Bool.true then kx (Sum.inl <| ((Bool.false, ()), (())))
 else k ((n0_1, est2_1, other3_1, g10_1, lists11_1, IntKind.wrap .i64 (v22_1 + (1 : Int)), ()), (r0_1, ())))
 else none)
 else none)
 else kx (Sum.inl <| ((Bool.false, ()), (()))))
 else none)
 else none)
 else none)
 else none)
 else kx (Sum.inl <| ((Bool.false, ()), (()))))
 else none)
 else none)
  | none => none)
 else kx (Sum.inr <| ((n0, est2, other3, g10, ()), (r0, ()))))
noncomputable def rd13 : Rd (VO s13) (Xs x13) := fun v k kx => match v with
  | ((n0, est2, other3, g10, lists11, v22, _), (r0, _)) => R13 n0 est2 other3 g10 lists11 v22 r0 k kx
noncomputable def F13 (n0 : Int) (est2 : (List Int)) (other3 : (List Int)) (g10 : (Option Gr)) (lists11 : (List (List Int))) (v22 : Int) (r0 : List Int) : Option X13 := finOf rd13 ((n0, est2, other3, g10, lists11, v22, ()), (r0, ()))
theorem F13_inv {n0 : Int} {est2 : (List Int)} {other3 : (List Int)} {g10 : (Option Gr)} {lists11 : (List (List Int))} {r0 : List Int} (I : Int → Prop) (μ : Int → Nat) (Q : X13 → Prop) (h : ∀ (v22 : Int), I v22 → Led (fun (R : Type) (k : V13 → Option R) (kx : X13 → Option R) => R13 n0 est2 other3 g10 lists11 v22 r0 k kx) (fun v => ∃ (v22' : Int), v = ((n0, est2, other3, g10, lists11, v22', ()), (r0, ())) ∧ I v22' ∧ μ v22' < μ v22) Q) : ∀ (v22 : Int), I v22 → ∃ z, F13 n0 est2 other3 g10 lists11 v22 r0 = some z ∧ Q z := fun v22 hi => by
  refine finOf_inv (V := V13) (X := X13) (rd := rd13) (fun v => ∃ (v22' : Int), v = ((n0, est2, other3, g10, lists11, v22', ()), (r0, ())) ∧ I v22') (fun v => match v with
    | ((n0, est2, other3, g10, lists11, v22, _), (r0, _)) => μ v22) Q (fun v hv => ?_) ((n0, est2, other3, g10, lists11, v22, ()), (r0, ())) ⟨v22, rfl, hi⟩
  obtain ⟨v22, rfl, hi⟩ := hv
  refine led_mono (h v22 hi) ?_ (fun _ q => q)
  rintro v ⟨v22', rfl, h1, h2⟩
  exact ⟨⟨v22', rfl, h1⟩, h2⟩
noncomputable def L13 : Lp := ⟨13, ⟨[(0, none), (2, none), (3, none), (10, none), (11, none), (14, none), (22, none)]⟩, s13, x13, fun v => match v with
  | ((n0, est2, other3, g10, lists11, v22, _), (r0, _)) => F13 n0 est2 other3 g10 lists11 v22 r0⟩
theorem ends13 : Ends L13 rd13 := ends_fin (fun v => by
  obtain ⟨⟨n0, est2, other3, g10, lists11, v22, _⟩, ⟨r0, _⟩⟩ := v
  rfl)
abbrev s25 : Shape := ⟨[.v I64, .un, .v (.list I64), .v (.list I64), .un, .un, .un, .un, .un, .un, .v (.obj 0), .un, .un, .un, .row 0, .un, .un, .un, .un, .un, .un, .un, .un, .un, .un, .row 1, .v I64, .un, .un, .un, .un, .un, .un, .un, .un, .un, .un, .un, .un, .un, .un, .un, .un, .un, .un, .un, .un, .un, .un, .un, .un, .un, .un, .un, .un, .un, .un, .un, .un, .un, .un, .un, .un, .un, .un, .un, .un, .un, .un, .un, .un, .un, .un, .un, .un, .un, .un, .un, .un, .un, .un, .un, .un, .un, .un, .un, .un, .un, .un, .un, .un, .un, .un, .un, .un, .un, .un, .un, .un, .un, .un, .un, .un, .un, .un, .un, .un, .un, .un, .un, .un, .un, .un, .un, .un, .un, .un, .un, .un, .un, .un, .un, .un, .un, .un, .un, .un, .un, .un, .un, .un, .un, .un, .un, .un, .un, .un, .un, .un, .un, .un, .un, .un, .un, .un, .un, .un, .un, .un, .un, .un, .un, .un, .un, .un, .un, .un, .un, .un, .un, .un, .un, .un, .un, .un, .un, .un, .un, .un, .un, .un, .un, .un, .un, .un, .un, .un, .un, .un, .un, .un, .un, .un, .un, .un, .un, .un, .un, .un, .un, .un, .un, .un, .un, .un, .un, .un, .un, .un, .un, .un, .un, .un, .un, .un, .un, .un, .un, .un, .un, .un, .un, .un, .un, .un, .un, .un], [.row (3 : Go.TypeId) I64, .row (3 : Go.TypeId) I64]⟩
abbrev x25 : List Way := [⟨(.ex 4), ⟨[(0, none), (10, none), (14, none), (25, none)]⟩, ⟨[.v I64, .un, .un, .un, .un, .un, .un, .un, .un, .un, .v (.obj 0), .un, .un, .un, .row 0, .un, .un, .un, .un, .un, .un, .un, .un, .un, .un, .row 1, .un, .un, .un, .un, .un, .un, .un, .un, .un, .un, .un, .un, .un, .un, .un, .un, .un, .un, .un, .un, .un, .un, .un, .un, .un, .un, .un, .un, .un, .un, .un, .un, .un, .un, .un, .un, .un, .un, .un, .un, .un, .un, .un, .un, .un, .un, .un, .un, .un, .un, .un, .un, .un, .un, .un, .un, .un, .un, .un, .un, .un, .un, .un, .un, .un, .un, .un, .un, .un, .un, .un, .un, .un, .un, .un, .un, .un, .un, .un, .un, .un, .un, .un, .un, .un, .un, .un, .un, .un, .un, .un, .un, .un, .un, .un, .un, .un, .un, .un, .un, .un, .un, .un, .un, .un, .un, .un, .un, .un, .un, .un, .un, .un, .un, .un, .un, .un, .un, .un, .un, .un, .un, .un, .un, .un, .un, .un, .un, .un, .un, .un, .un, .un, .un, .un, .un, .un, .un, .un, .un, .un, .un, .un, .un, .un, .un, .un, .un, .un, .un, .un, .un, .un, .un, .un, .un, .un, .un, .un, .un, .un, .un, .un, .un, .un, .un, .un, .un, .un, .un, .un, .un, .un, .un, .un, .un, .un, .un, .un, .un, .un, .un, .un, .un, .un, .un, .un, .un, .un, .un, .un], [.row (3 : Go.TypeId) I64, .row (3 : Go.TypeId) I64]⟩⟩]
abbrev V25 : Type := (Int × (List Int) × (List Int) × (Option Gr) × Int × Unit) × ((List Int) × (List Int) × Unit)
abbrev X25 : Type := (Int × (Option Gr) × Unit) × ((List Int) × (List Int) × Unit)
noncomputable def R25 {R : Type} (n0 : Int) (est2 : (List Int)) (other3 : (List Int)) (g10 : (Option Gr)) (v26 : Int) (r0 : List Int) (r1 : List Int) (k : V25 → Option R) (kx : X25 → Option R) : Option R := (if Decidable.decide (v26 < n0) = Bool.true then (if (0 : Int) ≤ v26 then (if v26 < (↑(List.length other3) : Int) then (if (0 : Int) ≤ v26 then (if v26 < (↑(List.length r1) : Int) then (if Int.toNat v26 < List.length r1 then (if (0 : Int) ≤ v26 then (if v26 < (↑(List.length est2) : Int) then (if (0 : Int) ≤ v26 then (if v26 < (↑(List.length (List.set r1 (Int.toNat v26) (List.getD other3 (Int.toNat v26) (0 : Int)))) : Int) then (if Decidable.decide (List.getD est2 (Int.toNat v26) (0 : Int) < List.getD (List.set r1 (Int.toNat v26) (List.getD other3 (Int.toNat v26) (0 : Int))) (Int.toNat v26) (0 : Int)) = Bool.true then (if (0 : Int) ≤ v26 then (if v26 < (↑(List.length est2) : Int) then (if (0 : Int) ≤ v26 then (if v26 < (↑(List.length (List.set r1 (Int.toNat v26) (List.getD other3 (Int.toNat v26) (0 : Int)))) : Int) then (if Int.toNat v26 < List.length (List.set r1 (Int.toNat v26) (List.getD other3 (Int.toNat v26) (0 : Int))) then k ((n0, est2, other3, g10, IntKind.wrap .i64 (v26 + (1 : Int)), ()), (r0, List.set (List.set r1 (Int.toNat v26) (List.getD other3 (Int.toNat v26) (0 : Int))) (Int.toNat v26) (List.getD est2 (Int.toNat v26) (0 : Int)), ()))
 else none)
 else none)
 else none)
 else none)
 else none)
 else k ((n0, est2, other3, g10, IntKind.wrap .i64 (v26 + (1 : Int)), ()), (r0, List.set r1 (Int.toNat v26) (List.getD other3 (Int.toNat v26) (0 : Int)), ())))
 else none)
 else none)
 else none)
 else none)
 else none)
 else none)
 else none)
 else none)
 else none)
 else kx (((n0, g10, ()), (r0, r1, ()))))
noncomputable def rd25 : Rd (VO s25) (Xs x25) := fun v k kx => match v with
  | ((n0, est2, other3, g10, v26, _), (r0, r1, _)) => R25 n0 est2 other3 g10 v26 r0 r1 k kx
noncomputable def F25 (n0 : Int) (est2 : (List Int)) (other3 : (List Int)) (g10 : (Option Gr)) (v26 : Int) (r0 : List Int) (r1 : List Int) : Option X25 := finOf rd25 ((n0, est2, other3, g10, v26, ()), (r0, r1, ()))
theorem F25_inv {n0 : Int} {est2 : (List Int)} {other3 : (List Int)} {g10 : (Option Gr)} {r0 : List Int} (I : Int → List Int → Prop) (μ : Int → List Int → Nat) (Q : X25 → Prop) (h : ∀ (v26 : Int) (r1 : List Int), I v26 r1 → Led (fun (R : Type) (k : V25 → Option R) (kx : X25 → Option R) => R25 n0 est2 other3 g10 v26 r0 r1 k kx) (fun v => ∃ (v26' : Int) (r1' : List Int), v = ((n0, est2, other3, g10, v26', ()), (r0, r1', ())) ∧ I v26' r1' ∧ μ v26' r1' < μ v26 r1) Q) : ∀ (v26 : Int) (r1 : List Int), I v26 r1 → ∃ z, F25 n0 est2 other3 g10 v26 r0 r1 = some z ∧ Q z := fun v26 r1 hi => by
  refine finOf_inv (V := V25) (X := X25) (rd := rd25) (fun v => ∃ (v26' : Int) (r1' : List Int), v = ((n0, est2, other3, g10, v26', ()), (r0, r1', ())) ∧ I v26' r1') (fun v => match v with
    | ((n0, est2, other3, g10, v26, _), (r0, r1, _)) => μ v26 r1) Q (fun v hv => ?_) ((n0, est2, other3, g10, v26, ()), (r0, r1, ())) ⟨v26, r1, rfl, hi⟩
  obtain ⟨v26, r1, rfl, hi⟩ := hv
  refine led_mono (h v26 r1 hi) ?_ (fun _ q => q)
  rintro v ⟨v26', r1', rfl, h1, h2⟩
  exact ⟨⟨v26', r1', rfl, h1⟩, h2⟩
noncomputable def L25 : Lp := ⟨25, ⟨[(0, none), (2, none), (3, none), (10, none), (14, none), (25, none), (26, none)]⟩, s25, x25, fun v => match v with
  | ((n0, est2, other3, g10, v26, _), (r0, r1, _)) => F25 n0 est2 other3 g10 v26 r0 r1⟩
theorem ends25 : Ends L25 rd25 := ends_fin (fun v => by
  obtain ⟨⟨n0, est2, other3, g10, v26, _⟩, ⟨r0, r1, _⟩⟩ := v
  rfl)
abbrev s34 : Shape := ⟨[.v I64, .un, .un, .un, .un, .un, .un, .un, .un, .un, .un, .un, .un, .un, .row 0, .un, .un, .un, .un, .un, .un, .un, .un, .un, .un, .un, .un, .row 1, .un, .un, .v I64, .un, .un, .un, .un, .un, .un, .un, .un, .un, .un, .un, .un, .un, .un, .un, .un, .un, .un, .un, .un, .un, .un, .un, .un, .un, .un, .un, .un, .un, .un, .un, .un, .un, .un, .un, .un, .un, .un, .un, .un, .un, .un, .un, .un, .un, .un, .un, .un, .un, .un, .un, .un, .un, .un, .un, .un, .un, .un, .un, .un, .un, .un, .un, .un, .un, .un, .un, .un, .un, .un, .un, .un, .un, .un, .un, .un, .un, .un, .un, .un, .un, .un, .un, .un, .un, .un, .un, .un, .un, .un, .un, .un, .un, .un, .un, .un, .un, .un, .un, .un, .un, .un, .un, .un, .un, .un, .un, .un, .un, .un, .un, .un, .un, .un, .un, .un, .un, .un, .un, .un, .un, .un, .un, .un, .un, .un, .un, .un, .un, .un, .un, .un, .un, .un, .un, .un, .un, .un, .un, .un, .un, .un, .un, .un, .un, .un, .un, .un, .un, .un, .un, .un, .un, .un, .un, .un, .un, .un, .un, .un, .un, .un, .un, .un, .un, .un, .un, .un, .un, .un, .un, .un, .un, .un, .un, .un, .un, .un, .un, .un, .un, .un, .un, .un, .un, .un], [.row (3 : Go.TypeId) I64, .row (3 : Go.TypeId) I64]⟩
abbrev x34 : List Way := [⟨.rt, ⟨[(8, none)]⟩, ⟨[.un, .un, .un, .un, .un, .un, .un, .un, .v .bool, .un, .un, .un, .un, .un, .un, .un, .un, .un, .un, .un, .un, .un, .un, .un, .un, .un, .un, .un, .un, .un, .un, .un, .un, .un, .un, .un, .un, .un, .un, .un, .un, .un, .un, .un, .un, .un, .un, .un, .un, .un, .un, .un, .un, .un, .un, .un, .un, .un, .un, .un, .un, .un, .un, .un, .un, .un, .un, .un, .un, .un, .un, .un, .un, .un, .un, .un, .un, .un, .un, .un, .un, .un, .un, .un, .un, .un, .un, .un, .un, .un, .un, .un, .un, .un, .un, .un, .un, .un, .un, .un, .un, .un, .un, .un, .un, .un, .un, .un, .un, .un, .un, .un, .un, .un, .un, .un, .un, .un, .un, .un, .un, .un, .un, .un, .un, .un, .un, .un, .un, .un, .un, .un, .un, .un, .un, .un, .un, .un, .un, .un, .un, .un, .un, .un, .un, .un, .un, .un, .un, .un, .un, .un, .un, .un, .un, .un, .un, .un, .un, .un, .un, .un, .un, .un, .un, .un, .un, .un, .un, .un, .un, .un, .un, .un, .un, .un, .un, .un, .un, .un, .un, .un, .un, .un, .un, .un, .un, .un, .un, .un, .un, .un, .un, .un, .un, .un, .un, .un, .un, .un, .un, .un, .un, .un, .un, .un, .un, .un, .un, .un, .un, .un, .un, .un, .un, .un, .un], []⟩⟩, ⟨(.ex 6), ⟨[]⟩, ⟨[.un, .un, .un, .un, .un, .un, .un, .un, .un, .un, .un, .un, .un, .un, .un, .un, .un, .un, .un, .un, .un, .un, .un, .un, .un, .un, .un, .un, .un, .un, .un, .un, .un, .un, .un, .un, .un, .un, .un, .un, .un, .un, .un, .un, .un, .un, .un, .un, .un, .un, .un, .un, .un, .un, .un, .un, .un, .un, .un, .un, .un, .un, .un, .un, .un, .un, .un, .un, .un, .un, .un, .un, .un, .un, .un, .un, .un, .un, .un, .un, .un, .un, .un, .un, .un, .un, .un, .un, .un, .un, .un, .un, .un, .un, .un, .un, .un, .un, .un, .un, .un, .un, .un, .un, .un, .un, .un, .un, .un, .un, .un, .un, .un, .un, .un, .un, .un, .un, .un, .un, .un, .un, .un, .un, .un, .un, .un, .un, .un, .un, .un, .un, .un, .un, .un, .un, .un, .un, .un, .un, .un, .un, .un, .un, .un, .un, .un, .un, .un, .un, .un, .un, .un, .un, .un, .un, .un, .un, .un, .un, .un, .un, .un, .un, .un, .un, .un, .un, .un, .un, .un, .un, .un, .un, .un, .un, .un, .un, .un, .un, .un, .un, .un, .un, .un, .un, .un, .un, .un, .un, .un, .un, .un, .un, .un, .un, .un, .un, .un, .un, .un, .un, .un, .un, .un, .un, .un, .un, .un, .un, .un, .un, .un, .un, .un, .un, .un], []⟩⟩]
abbrev V34 : Type := (Int × Int × Unit) × ((List Int) × (List Int) × Unit)
abbrev X34 : Type := ((Bool × Unit) × (Unit)) ⊕ ((Unit) × (Unit))
noncomputable def R34 {R : Type} (n0 : Int) (v30 : Int) (r0 : List Int) (r1 : List Int) (k : V34 → Option R) (kx : X34 → Option R) : Option R := (if Decidable.decide (v30 < n0) = Bool.true then (if (0 : Int) ≤ v30 then (if v30 < (↑(List.length r1) : Int) then (if (0 : Int) ≤ v30 then (if v30 < (↑(List.length r0) : Int) then (if Decidable.decide (List.getD r1 (Int.toNat v30) (0 : Int) > List.getD r0 (Int.toNat v30) (0 : Int)) = Bool.true then kx (Sum.inl <| ((Bool.false, ()), (())))
 else k ((n0, IntKind.wrap .i64 (v30 + (1 : Int)), ()), (r0, r1, ())))
 else none)
 else none)
 else none)
 else none)
 else kx (Sum.inr <| ((()), (()))))
noncomputable def rd34 : Rd (VO s34) (Xs x34) := fun v k kx => match v with
  | ((n0, v30, _), (r0, r1, _)) => R34 n0 v30 r0 r1 k kx
noncomputable def F34 (n0 : Int) (v30 : Int) (r0 : List Int) (r1 : List Int) : Option X34 := finOf rd34 ((n0, v30, ()), (r0, r1, ()))
theorem F34_inv {n0 : Int} {r0 : List Int} {r1 : List Int} (I : Int → Prop) (μ : Int → Nat) (Q : X34 → Prop) (h : ∀ (v30 : Int), I v30 → Led (fun (R : Type) (k : V34 → Option R) (kx : X34 → Option R) => R34 n0 v30 r0 r1 k kx) (fun v => ∃ (v30' : Int), v = ((n0, v30', ()), (r0, r1, ())) ∧ I v30' ∧ μ v30' < μ v30) Q) : ∀ (v30 : Int), I v30 → ∃ z, F34 n0 v30 r0 r1 = some z ∧ Q z := fun v30 hi => by
  refine finOf_inv (V := V34) (X := X34) (rd := rd34) (fun v => ∃ (v30' : Int), v = ((n0, v30', ()), (r0, r1, ())) ∧ I v30') (fun v => match v with
    | ((n0, v30, _), (r0, r1, _)) => μ v30) Q (fun v hv => ?_) ((n0, v30, ()), (r0, r1, ())) ⟨v30, rfl, hi⟩
  obtain ⟨v30, rfl, hi⟩ := hv
  refine led_mono (h v30 hi) ?_ (fun _ q => q)
  rintro v ⟨v30', rfl, h1, h2⟩
  exact ⟨⟨v30', rfl, h1⟩, h2⟩
noncomputable def L34 : Lp := ⟨34, ⟨[(0, none), (14, none), (27, none), (30, none)]⟩, s34, x34, fun v => match v with
  | ((n0, v30, _), (r0, r1, _)) => F34 n0 v30 r0 r1⟩
theorem ends34 : Ends L34 rd34 := ends_fin (fun v => by
  obtain ⟨⟨n0, v30, _⟩, ⟨r0, r1, _⟩⟩ := v
  rfl)
noncomputable def env : Env := mkEnv tab [(66, first7.sig), (70, Made7.sig), (72, fits.sig), (76, RunH.sig), (71, SweepH.sig), (53, SameIntsH.sig), (74, num7.sig)] 0 [(19, [0, 1, 2, 3, 4, 5, 6, 7, 8, 9, 10, 11, 12, 13, 14]), (21, [0, 1, 2, 3, 4, 5, 6, 7, 8, 9, 10, 11, 12, 13, 14, 15, 16, 17, 18, 19, 20, 21, 22, 23]), (28, [0, 1, 2, 3, 4, 5, 6, 7, 8]), (36, [0, 1, 2, 3, 4, 5, 6, 7, 8])] [L17, L13, L25, L34]
theorem round17 : RoundIs env (sub [true, true, true, true, true, true, true, true, true, true, false, true, false, false, true, false, false, true, false, true, false, false] code) L17 rd17 := fun R v k kx => by kernel_rfl
theorem round13 : RoundIs env (sub [true, true, true, true, true, true, true, true, true, true, false, true, false, false] code) L13 rd13 := fun R v k kx => by kernel_rfl
theorem round25 : RoundIs env (sub [true, true, true, true, true, true, true, true, true, true, true, true, false, true, false, false] code) L25 rd25 := fun R v k kx => by kernel_rfl
theorem round34 : RoundIs env (sub [true, true, true, true, true, true, true, true, true, true, true, true, true, true, true, false, true, false, false] code) L34 rd34 := fun R v k kx => by kernel_rfl
abbrev D : Type := (Bool × Unit)
noncomputable def run' (n0 : Int) (pairs1 : (List (Int × Int))) (est2 : (List Int)) (other3 : (List Int)) : Option D := (if first7.pre = Bool.true then (if Made7.pre n0 pairs1 = Bool.true then (if fits.pre est2 n0 = Bool.true then (if fits.pre other3 n0 = Bool.true then (if (!first7.fn.1) = Bool.false then (if Option.isNone (Made7.fn n0 pairs1).1 = Bool.false then (if (!(fits.fn est2 n0).1) = Bool.false then (if (!(fits.fn other3 n0).1) = Bool.true then some (first7.fn.1, ())
 else (if RunH.pre (Made7.fn n0 pairs1).1 est2 = Bool.true then (if SweepH.pre (Made7.fn n0 pairs1).1 (RunH.fn (Made7.fn n0 pairs1).1 est2).1 = Bool.true then (if SameIntsH.pre (RunH.fn (Made7.fn n0 pairs1).1 est2).1 (SweepH.fn (Made7.fn n0 pairs1).1 (RunH.fn (Made7.fn n0 pairs1).1 est2).1).1 = Bool.true then (if num7.pre (RunH.fn (Made7.fn n0 pairs1).1 est2).2.2.1 = Bool.true then (if ((num7.fn (RunH.fn (Made7.fn n0 pairs1).1 est2).2.2.1).1 != (0 : Int)) = Bool.false then (if num7.pre (SweepH.fn (Made7.fn n0 pairs1).1 (RunH.fn (Made7.fn n0 pairs1).1 est2).1).2.2.2.1 = Bool.true then (if ((num7.fn (SweepH.fn (Made7.fn n0 pairs1).1 (RunH.fn (Made7.fn n0 pairs1).1 est2).1).2.2.2.1).1 != (0 : Int)) = Bool.false then (if (!(SameIntsH.fn (RunH.fn (Made7.fn n0 pairs1).1 est2).1 (SweepH.fn (Made7.fn n0 pairs1).1 (RunH.fn (Made7.fn n0 pairs1).1 est2).1).1).1) = Bool.false then (if ((SweepH.fn (Made7.fn n0 pairs1).1 (RunH.fn (Made7.fn n0 pairs1).1 est2).1).2.1 != (0 : Int)) = Bool.false then (if (SweepH.fn (Made7.fn n0 pairs1).1 (RunH.fn (Made7.fn n0 pairs1).1 est2).1).2.2.1 = Bool.false then (if ((↑(List.length (RunH.fn (Made7.fn n0 pairs1).1 est2).1) : Int) != n0) = Bool.true then some (Bool.false, ())
 else (match F13 (n0) (est2) (other3) ((Made7.fn n0 pairs1).1) ((Made7.fn n0 pairs1).2.1) ((0 : Int)) ((RunH.fn (Made7.fn n0 pairs1).1 est2).1) with
  | some (Sum.inl <| ((t8_2, _), _)) => some (t8_2, ())
  | some (Sum.inr <| ((n0_3, est2_3, other3_3, g10_3, _), (r0_3, _))) => (if n0_3 = n0_3 then (if (0 : Int) ≤ n0_3 then (if Int.toNat n0_3 * (8 : Nat) ≤ (140737488355328 : Nat) then (match F25 (n0_3) (est2_3) (other3_3) (g10_3) ((0 : Int)) (r0_3) (List.replicate (Int.toNat n0_3) (0 : Int)) with
  | some (((n0_4, g10_4, _), (r0_4, r1_4, _))) => (if RunH.pre g10_4 r1_4 = Bool.true then (if num7.pre (RunH.fn g10_4 r1_4).2.2.1 = Bool.true then (if ((num7.fn (RunH.fn g10_4 r1_4).2.2.1).1 != (0 : Int)) = Bool.false then (if ((↑(List.length (RunH.fn g10_4 r1_4).1) : Int) != n0_4) = Bool.true then some (Bool.false, ())
 else (match F34 (n0_4) ((0 : Int)) (r0_4) ((RunH.fn g10_4 r1_4).1) with
  | some (Sum.inl <| ((t8_5, _), _)) => some (t8_5, ())
  | some (Sum.inr <| (_, _)) => some (Bool.true, ())
  | none => none))
 else some (Bool.false, ()))
 else none)
 else none)
  | none => none)
 else none)
 else none)
 else none)
  | none => none))
 else some (Bool.false, ()))
 else some (Bool.false, ()))
 else some (Bool.false, ()))
 else some (Bool.false, ()))
 else none)
 else some (Bool.false, ()))
 else none)
 else none)
 else none)
 else none))
 else some (first7.fn.1, ()))
 else some (first7.fn.1, ()))
 else some (first7.fn.1, ()))
 else none)
 else none)
 else none)
 else none)
noncomputable def run (d : Ds (List.map PM.ty ps)) : Option (Ds (muts ps ++ List.map PM.ty rs)) := match d with
  | (n0, pairs1, est2, other3, _) => run' n0 pairs1 est2 other3
theorem run_is : ∀ d, runF env 217 code [8] ps rs d = run d := fun d => by kernel_rfl
theorem loops : LoopsOk env code := loopsOk_of (l := [[true, true, true, true, true, true, true, true, true, true, false, true, false, false], [true, true, true, true, true, true, true, true, true, true, false, true, false, false, true, false, false, true, false, true, false, false], [true, true, true, true, true, true, true, true, true, true, true, true, false, true, false, false], [true, true, true, true, true, true, true, true, true, true, true, true, true, true, true, false, true, false, false]]) (by kernel_rfl) (fun p hp => by
  simp only [List.mem_cons, List.not_mem_nil, or_false] at hp
  rcases hp with rfl | rfl | rfl | rfl
  · exact loopOk_lp (L := L13) (x := sub [true, true, true, true, true, true, true, true, true, true, false, true, false, false] code) (by kernel_rfl) (by simp [L13]) round13 ends13
  · exact loopOk_lp (L := L17) (x := sub [true, true, true, true, true, true, true, true, true, true, false, true, false, false, true, false, false, true, false, true, false, false] code) (by kernel_rfl) (by simp [L17]) round17 ends17
  · exact loopOk_lp (L := L25) (x := sub [true, true, true, true, true, true, true, true, true, true, true, true, false, true, false, false] code) (by kernel_rfl) (by simp [L25]) round25 ends25
  · exact loopOk_lp (L := L34) (x := sub [true, true, true, true, true, true, true, true, true, true, true, true, true, true, true, false, true, false, false] code) (by kernel_rfl) (by simp [L34]) round34 ends34
  )
noncomputable def pre (n0 : Int) (pairs1 : (List (Int × Int))) (est2 : (List Int)) (other3 : (List Int)) : Bool := (run' n0 pairs1 est2 other3).isSome
noncomputable def fn (n0 : Int) (pairs1 : (List (Int × Int))) (est2 : (List Int)) (other3 : (List Int)) : D := match run' n0 pairs1 est2 other3 with
  | some x => x
  | none => default
noncomputable def sig : Sig := ⟨ps, rs, fun d => match d with
  | (n0, pairs1, est2, other3, _) => pre n0 pairs1 est2 other3, fun d => match d with
  | (n0, pairs1, est2, other3, _) => fn n0 pairs1 est2 other3⟩
theorem run_fn (n0 : Int) (pairs1 : (List (Int × Int))) (est2 : (List Int)) (other3 : (List Int)) (h : pre n0 pairs1 est2 other3 = true) : run' n0 pairs1 est2 other3 = some (fn n0 pairs1 est2 other3) := by
  unfold pre at h
  unfold fn
  cases e : run' n0 pairs1 est2 other3 with
  | some x => rfl
  | none => rw [e] at h; cases h
theorem is_fn (n0 : Int) (pairs1 : (List (Int × Int))) (est2 : (List Int)) (other3 : (List Int)) {x : D} (h : run' n0 pairs1 est2 other3 = some x) : pre n0 pairs1 est2 other3 = true ∧ fn n0 pairs1 est2 other3 = x := by
  unfold pre fn
  rw [h]
  exact ⟨rfl, rfl⟩
theorem sound {ρ : Obs} (hE : EnvOk Go.Proofs.Try.prog ρ env) : Sound Go.Proofs.Try.prog ρ 18 sig := sound_of (fn := Go.Proofs.Try.f18) (c := code) (res := [8]) hE (by kernel_rfl) (by kernel_rfl) (by kernel_rfl) (by kernel_rfl) (by kernel_rfl) loops rfl (show 4 ≤ 217 by decide) (fun d hd => (run_is d).trans (by
  obtain ⟨n0, pairs1, est2, other3, _⟩ := d
  exact run_fn n0 pairs1 est2 other3 hd))
theorem enters : Enters Go.Proofs.Try.prog 18 := enters_of (fn := Go.Proofs.Try.f18) (by kernel_rfl) (by kernel_rfl) (by kernel_rfl)
theorem ok {ρ : Obs} (h : ∀ p ∈ ([(66, first7.sig), (70, Made7.sig), (72, fits.sig), (76, RunH.sig), (71, SweepH.sig), (53, SameIntsH.sig), (74, num7.sig)] : List (FuncId × Sig)), Enters Go.Proofs.Try.prog p.1 ∧ Sound Go.Proofs.Try.prog ρ p.1 p.2) : Enters Go.Proofs.Try.prog 18 ∧ Sound Go.Proofs.Try.prog ρ 18 sig := ⟨enters, sound (envOk_of tabOk h)⟩
theorem okR : Enters Go.Proofs.Try.prog 18 ∧ Sound Go.Proofs.Try.prog rho 18 sig := ok (fun p hp => by
  simp only [List.mem_cons, List.not_mem_nil, or_false] at hp
  rcases hp with rfl | rfl | rfl | rfl | rfl | rfl | rfl
  · exact first7.okR
  · exact Made7.okR
  · exact fits.okR
  · exact RunH.okR
  · exact SweepH.okR
  · exact SameIntsH.okR
  · exact num7.okR)
end HindexLeft
/-! pith/pithlaw7.HindexMany -/
namespace HindexMany
abbrev ps : List PM := [.val I64, .val (.list Pr), .val (.list I64)]
abbrev rs : List PM := [.val .bool]
noncomputable abbrev code : Code := (Go.Proofs.Try.f20.body.getD .skip)
abbrev s12 : Shape := ⟨[.v I64, .un, .v (.list I64), .un, .un, .un, .un, .un, .un, .v (.list (.list I64)), .un, .row 0, .row 1, .un, .v I64, .v I64, .v I64, .un, .un, .un, .un, .un, .un, .un, .un, .un, .un, .un, .un, .un, .un, .un, .un, .un, .un, .un, .un, .un, .un, .un, .un, .un, .un, .un, .un, .un, .un, .un, .un, .un, .un, .un, .un, .un, .un, .un, .un, .un, .un, .un, .un, .un, .un, .un, .un, .un, .un, .un, .un, .un, .un, .un, .un, .un, .un, .un, .un, .un, .un, .un, .un, .un, .un, .un, .un, .un, .un, .un, .un, .un, .un, .un, .un, .un, .un, .un, .un, .un, .un, .un, .un, .un, .un, .un, .un, .un, .un, .un, .un, .un, .un, .un, .un, .un, .un, .un, .un, .un, .un, .un, .un, .un, .un, .un, .un, .un, .un, .un, .un, .un, .un, .un, .un, .un, .un, .un, .un, .un, .un, .un, .un, .un, .un, .un, .un, .un, .un, .un, .un, .un, .un, .un], [.row (3 : Go.TypeId) I64, .row (3 : Go.TypeId) I64]⟩
abbrev x12 : List Way := [⟨(.ex 0), ⟨[(0, none), (12, none), (14, none), (15, none)]⟩, ⟨[.v I64, .un, .un, .un, .un, .un, .un, .un, .un, .un, .un, .un, .row 0, .un, .v I64, .v I64, .un, .un, .un, .un, .un, .un, .un, .un, .un, .un, .un, .un, .un, .un, .un, .un, .un, .un, .un, .un, .un, .un, .un, .un, .un, .un, .un, .un, .un, .un, .un, .un, .un, .un, .un, .un, .un, .un, .un, .un, .un, .un, .un, .un, .un, .un, .un, .un, .un, .un, .un, .un, .un, .un, .un, .un, .un, .un, .un, .un, .un, .un, .un, .un, .un, .un, .un, .un, .un, .un, .un, .un, .un, .un, .un, .un, .un, .un, .un, .un, .un, .un, .un, .un, .un, .un, .un, .un, .un, .un, .un, .un, .un, .un, .un, .un, .un, .un, .un, .un, .un, .un, .un, .un, .un, .un, .un, .un, .un, .un, .un, .un, .un, .un, .un, .un, .un, .un, .un, .un, .un, .un, .un, .un, .un, .un, .un, .un, .un, .un, .un, .un, .un, .un, .un, .un], [.row (3 : Go.TypeId) I64]⟩⟩]
abbrev V12 : Type := (Int × (List Int) × (List (List Int)) × Int × Int × Int × Unit) × ((List Int) × (List Int) × Unit)
abbrev X12 : Type := (Int × Int × Int × Unit) × ((List Int) × Unit)
noncomputable def R12 {R : Type} (n0 : Int) (est2 : (List Int)) (lists9 : (List (List Int))) (sum14 : Int) (edges15 : Int) (v16 : Int) (r0 : List Int) (r1 : List Int) (k : V12 → Option R) (kx : X12 → Option R) : Option R := (if Decidable.decide (v16 < n0) = Bool.true then (if (0 : Int) ≤ v16 then (if v16 < (↑(List.length est2) : Int) then (if (0 : Int) ≤ v16 then (if v16 < (↑(List.length lists9) : Int) then (if Decidable.decide (List.getD est2 (Int.toNat v16) (0 : Int) > (↑(List.length (List.getD lists9 (Int.toNat v16) [])) : Int)) = Bool.true then (if (0 : Int) ≤ v16 then (if v16 < (↑(List.length lists9) : Int) then (if (0 : Int) ≤ v16 then (if v16 < (↑(List.length r0) : Int) then (if (0 : Int) ≤ v16 then (if v16 < (↑(List.length lists9) : Int) then k ((n0, est2, lists9, IntKind.wrap .i64 (IntKind.wrap .i64 (sum14 + (↑(List.length (List.getD lists9 (Int.toNat v16) [])) : Int)) - List.getD r0 (Int.toNat v16) (0 : Int)), IntKind.wrap .i64 (edges15 + (↑(List.length (List.getD lists9 (Int.toNat v16) [])) : Int)), IntKind.wrap .i64 (v16 + (1 : Int)), ()), (r0, r1, ()))
 else none)
 else none)
 else none)
 else none)
 else none)
 else none)
 else (if (0 : Int) ≤ v16 then (if v16 < (↑(List.length r0) : Int) then (if (0 : Int) ≤ v16 then (if v16 < (↑(List.length lists9) : Int) then k ((n0, est2, lists9, IntKind.wrap .i64 (IntKind.wrap .i64 (sum14 + List.getD est2 (Int.toNat v16) (0 : Int)) - List.getD r0 (Int.toNat v16) (0 : Int)), IntKind.wrap .i64 (edges15 + (↑(List.length (List.getD lists9 (Int.toNat v16) [])) : Int)), IntKind.wrap .i64 (v16 + (1 : Int)), ()), (r0, r1, ()))
 else none)
 else none)
 else none)
 else none))
 else none)
 else none)
 else none)
 else none)
 else kx (((n0, sum14, edges15, ()), (r1, ()))))
noncomputable def rd12 : Rd (VO s12) (Xs x12) := fun v k kx => match v with
  | ((n0, est2, lists9, sum14, edges15, v16, _), (r0, r1, _)) => R12 n0 est2 lists9 sum14 edges15 v16 r0 r1 k kx
noncomputable def F12 (n0 : Int) (est2 : (List Int)) (lists9 : (List (List Int))) (sum14 : Int) (edges15 : Int) (v16 : Int) (r0 : List Int) (r1 : List Int) : Option X12 := finOf rd12 ((n0, est2, lists9, sum14, edges15, v16, ()), (r0, r1, ()))
theorem F12_inv {n0 : Int} {est2 : (List Int)} {lists9 : (List (List Int))} {r0 : List Int} {r1 : List Int} (I : Int → Int → Int → Prop) (μ : Int → Int → Int → Nat) (Q : X12 → Prop) (h : ∀ (sum14 : Int) (edges15 : Int) (v16 : Int), I sum14 edges15 v16 → Led (fun (R : Type) (k : V12 → Option R) (kx : X12 → Option R) => R12 n0 est2 lists9 sum14 edges15 v16 r0 r1 k kx) (fun v => ∃ (sum14' : Int) (edges15' : Int) (v16' : Int), v = ((n0, est2, lists9, sum14', edges15', v16', ()), (r0, r1, ())) ∧ I sum14' edges15' v16' ∧ μ sum14' edges15' v16' < μ sum14 edges15 v16) Q) : ∀ (sum14 : Int) (edges15 : Int) (v16 : Int), I sum14 edges15 v16 → ∃ z, F12 n0 est2 lists9 sum14 edges15 v16 r0 r1 = some z ∧ Q z := fun sum14 edges15 v16 hi => by
  refine finOf_inv (V := V12) (X := X12) (rd := rd12) (fun v => ∃ (sum14' : Int) (edges15' : Int) (v16' : Int), v = ((n0, est2, lists9, sum14', edges15', v16', ()), (r0, r1, ())) ∧ I sum14' edges15' v16') (fun v => match v with
    | ((n0, est2, lists9, sum14, edges15, v16, _), (r0, r1, _)) => μ sum14 edges15 v16) Q (fun v hv => ?_) ((n0, est2, lists9, sum14, edges15, v16, ()), (r0, r1, ())) ⟨sum14, edges15, v16, rfl, hi⟩
  obtain ⟨sum14, edges15, v16, rfl, hi⟩ := hv
  refine led_mono (h sum14 edges15 v16 hi) ?_ (fun _ q => q)
  rintro v ⟨sum14', edges15', v16', rfl, h1, h2⟩
  exact ⟨⟨sum14', edges15', v16', rfl, h1⟩, h2⟩
noncomputable def L12 : Lp := ⟨12, ⟨[(0, none), (2, none), (9, none), (11, none), (12, none), (14, none), (15, none), (16, none)]⟩, s12, x12, fun v => match v with
  | ((n0, est2, lists9, sum14, edges15, v16, _), (r0, r1, _)) => F12 n0 est2 lists9 sum14 edges15 v16 r0 r1⟩
theorem ends12 : Ends L12 rd12 := ends_fin (fun v => by
  obtain ⟨⟨n0, est2, lists9, sum14, edges15, v16, _⟩, ⟨r0, r1, _⟩⟩ := v
  rfl)
abbrev s21 : Shape := ⟨[.v I64, .un, .un, .un, .un, .un, .un, .un, .un, .un, .un, .un, .row 0, .un, .v I64, .v I64, .un, .un, .v I64, .v I64, .un, .un, .un, .un, .un, .un, .un, .un, .un, .un, .un, .un, .un, .un, .un, .un, .un, .un, .un, .un, .un, .un, .un, .un, .un, .un, .un, .un, .un, .un, .un, .un, .un, .un, .un, .un, .un, .un, .un, .un, .un, .un, .un, .un, .un, .un, .un, .un, .un, .un, .un, .un, .un, .un, .un, .un, .un, .un, .un, .un, .un, .un, .un, .un, .un, .un, .un, .un, .un, .un, .un, .un, .un, .un, .un, .un, .un, .un, .un, .un, .un, .un, .un, .un, .un, .un, .un, .un, .un, .un, .un, .un, .un, .un, .un, .un, .un, .un, .un, .un, .un, .un, .un, .un, .un, .un, .un, .un, .un, .un, .un, .un, .un, .un, .un, .un, .un, .un, .un, .un, .un, .un, .un, .un, .un, .un, .un, .un, .un, .un, .un, .un], [.row (3 : Go.TypeId) I64]⟩
abbrev x21 : List Way := [⟨.rt, ⟨[(6, none)]⟩, ⟨[.un, .un, .un, .un, .un, .un, .v .bool, .un, .un, .un, .un, .un, .un, .un, .un, .un, .un, .un, .un, .un, .un, .un, .un, .un, .un, .un, .un, .un, .un, .un, .un, .un, .un, .un, .un, .un, .un, .un, .un, .un, .un, .un, .un, .un, .un, .un, .un, .un, .un, .un, .un, .un, .un, .un, .un, .un, .un, .un, .un, .un, .un, .un, .un, .un, .un, .un, .un, .un, .un, .un, .un, .un, .un, .un, .un, .un, .un, .un, .un, .un, .un, .un, .un, .un, .un, .un, .un, .un, .un, .un, .un, .un, .un, .un, .un, .un, .un, .un, .un, .un, .un, .un, .un, .un, .un, .un, .un, .un, .un, .un, .un, .un, .un, .un, .un, .un, .un, .un, .un, .un, .un, .un, .un, .un, .un, .un, .un, .un, .un, .un, .un, .un, .un, .un, .un, .un, .un, .un, .un, .un, .un, .un, .un, .un, .un, .un, .un, .un, .un, .un, .un, .un], []⟩⟩, ⟨(.ex 2), ⟨[(12, none), (14, none), (15, none), (18, none)]⟩, ⟨[.un, .un, .un, .un, .un, .un, .un, .un, .un, .un, .un, .un, .row 0, .un, .v I64, .v I64, .un, .un, .v I64, .un, .un, .un, .un, .un, .un, .un, .un, .un, .un, .un, .un, .un, .un, .un, .un, .un, .un, .un, .un, .un, .un, .un, .un, .un, .un, .un, .un, .un, .un, .un, .un, .un, .un, .un, .un, .un, .un, .un, .un, .un, .un, .un, .un, .un, .un, .un, .un, .un, .un, .un, .un, .un, .un, .un, .un, .un, .un, .un, .un, .un, .un, .un, .un, .un, .un, .un, .un, .un, .un, .un, .un, .un, .un, .un, .un, .un, .un, .un, .un, .un, .un, .un, .un, .un, .un, .un, .un, .un, .un, .un, .un, .un, .un, .un, .un, .un, .un, .un, .un, .un, .un, .un, .un, .un, .un, .un, .un, .un, .un, .un, .un, .un, .un, .un, .un, .un, .un, .un, .un, .un, .un, .un, .un, .un, .un, .un, .un, .un, .un, .un, .un, .un], [.row (3 : Go.TypeId) I64]⟩⟩]
abbrev V21 : Type := (Int × Int × Int × Int × Int × Unit) × ((List Int) × Unit)
abbrev X21 : Type := ((Bool × Unit) × (Unit)) ⊕ ((Int × Int × Int × Unit) × ((List Int) × Unit))
noncomputable def R21 {R : Type} (n0 : Int) (sum14 : Int) (edges15 : Int) (all18 : Int) (i19 : Int) (r0 : List Int) (k : V21 → Option R) (kx : X21 → Option R) : Option R := (if Decidable.decide (i19 < (↑(List.length r0) : Int)) = Bool.true then (if (0 : Int) ≤ i19 then (if i19 < (↑(List.length r0) : Int) then (if Decidable.decide (List.getD r0 (Int.toNat i19) (0 : Int) < (0 : Int)) = Bool.false then (if (0 : Int) ≤ i19 then (if i19 < (↑(List.length r0) : Int) then (if Decidable.decide (List.getD r0 (Int.toNat i19) (0 : Int) > n0) = Bool.false then (if (0 : Int) ≤ i19 then (if i19 < (↑(List.length r0) : Int) then (if (List.getD r0 (Int.toNat i19) (0 : Int) == (0 : Int)) = Bool.true then (if Decidable.decide (i19 < IntKind.wrap .i64 ((↑(List.length r0) : Int) - (1 : Int))) = Bool.true then kx (Sum.inl <| ((Bool.false, ()), (())))
 else (if (0 : Int) ≤ i19 then (if i19 < (↑(List.length r0) : Int) then k ((n0, sum14, edges15, IntKind.wrap .i64 (all18 + List.getD r0 (Int.toNat i19) (0 : Int)), IntKind.wrap .i64 (i19 + (1 : Int)), ()), (r0, ()))
 else none)
 else none))
 else (if (0 : Int) ≤ i19 then (if i19 < (↑(List.length r0) : Int) then k ((n0, sum14, edges15, IntKind.wrap .i64 (all18 + List.getD r0 (Int.toNat i19) (0 : Int)), IntKind.wrap .i64 (i19 + (1 : Int)), ()), (r0, ()))
 else none)
 else none))
 else none)
 else none)
 else kx (Sum.inl <| ((Bool.false, ()), (()))))
 else none)
 else none)
 else kx (Sum.inl <| ((Bool.false, ()), (()))))
 else none)
 else none)
 else kx (Sum.inr <| ((sum14, edges15, all18, ()), (r0, ()))))
noncomputable def rd21 : Rd (VO s21) (Xs x21) := fun v k kx => match v with
  | ((n0, sum14, edges15, all18, i19, _), (r0, _)) => R21 n0 sum14 edges15 all18 i19 r0 k kx
noncomputable def F21 (n0 : Int) (sum14 : Int) (edges15 : Int) (all18 : Int) (i19 : Int) (r0 : List Int) : Option X21 := finOf rd21 ((n0, sum14, edges15, all18, i19, ()), (r0, ()))
theorem F21_inv {n0 : Int} {sum14 : Int} {edges15 : Int} {r0 : List Int} (I : Int → Int → Prop) (μ : Int → Int → Nat) (Q : X21 → Prop) (h : ∀ (all18 : Int) (i19 : Int), I all18 i19 → Led (fun (R : Type) (k : V21 → Option R) (kx : X21 → Option R) => R21 n0 sum14 edges15 all18 i19 r0 k kx) (fun v => ∃ (all18' : Int) (i19' : Int), v = ((n0, sum14, edges15, all18', i19', ()), (r0, ())) ∧ I all18' i19' ∧ μ all18' i19' < μ all18 i19) Q) : ∀ (all18 : Int) (i19 : Int), I all18 i19 → ∃ z, F21 n0 sum14 edges15 all18 i19 r0 = some z ∧ Q z := fun all18 i19 hi => by
  refine finOf_inv (V := V21) (X := X21) (rd := rd21) (fun v => ∃ (all18' : Int) (i19' : Int), v = ((n0, sum14, edges15, all18', i19', ()), (r0, ())) ∧ I all18' i19') (fun v => match v with
    | ((n0, sum14, edges15, all18, i19, _), (r0, _)) => μ all18 i19) Q (fun v hv => ?_) ((n0, sum14, edges15, all18, i19, ()), (r0, ())) ⟨all18, i19, rfl, hi⟩
  obtain ⟨all18, i19, rfl, hi⟩ := hv
  refine led_mono (h all18 i19 hi) ?_ (fun _ q => q)
  rintro v ⟨all18', i19', rfl, h1, h2⟩
  exact ⟨⟨all18', i19', rfl, h1⟩, h2⟩
noncomputable def L21 : Lp := ⟨21, ⟨[(0, none), (12, none), (14, none), (15, none), (18, none), (19, none)]⟩, s21, x21, fun v => match v with
  | ((n0, sum14, edges15, all18, i19, _), (r0, _)) => F21 n0 sum14 edges15 all18 i19 r0⟩
theorem ends21 : Ends L21 rd21 := ends_fin (fun v => by
  obtain ⟨⟨n0, sum14, edges15, all18, i19, _⟩, ⟨r0, _⟩⟩ := v
  rfl)
noncomputable def env : Env := mkEnv tab [(66, first7.sig), (70, Made7.sig), (72, fits.sig), (76, RunH.sig), (74, num7.sig)] 0 [] [L12, L21]
theorem round12 : RoundIs env (sub [true, true, true, true, true, true, true, true, true, false, true, false, false] code) L12 rd12 := fun R v k kx => by kernel_rfl
theorem round21 : RoundIs env (sub [true, true, true, true, true, true, true, true, true, true, true, false, true, false, false] code) L21 rd21 := fun R v k kx => by kernel_rfl
abbrev D : Type := (Bool × Unit)
noncomputable def run' (n0 : Int) (pairs1 : (List (Int × Int))) (est2 : (List Int)) : Option D := (if first7.pre = Bool.true then (if Made7.pre n0 pairs1 = Bool.true then (if fits.pre est2 n0 = Bool.true then (if (!first7.fn.1) = Bool.false then (if Option.isNone (Made7.fn n0 pairs1).1 = Bool.false then (if (!(fits.fn est2 n0).1) = Bool.true then some (first7.fn.1, ())
 else (if RunH.pre (Made7.fn n0 pairs1).1 est2 = Bool.true then (if num7.pre (RunH.fn (Made7.fn n0 pairs1).1 est2).2.2.1 = Bool.true then (if ((num7.fn (RunH.fn (Made7.fn n0 pairs1).1 est2).2.2.1).1 != (0 : Int)) = Bool.false then (if ((↑(List.length (RunH.fn (Made7.fn n0 pairs1).1 est2).1) : Int) != n0) = Bool.true then some (Bool.false, ())
 else (match F12 (n0) (est2) ((Made7.fn n0 pairs1).2.1) ((0 : Int)) ((0 : Int)) ((0 : Int)) ((RunH.fn (Made7.fn n0 pairs1).1 est2).1) ((RunH.fn (Made7.fn n0 pairs1).1 est2).2.1) with
  | some (((n0_1, sum14_1, edges15_1, _), (r0_1, _))) => (match F21 (n0_1) (sum14_1) (edges15_1) ((0 : Int)) ((0 : Int)) (r0_1) with
  | some (Sum.inl <| ((t6_2, _), _)) => some (t6_2, ())
  | some (Sum.inr <| ((sum14_3, edges15_3, all18_3, _), (r0_3, _))) => (if (edges15_3 == (0 : Int)) = Bool.true then some ((↑(List.length r0_3) : Int) == (0 : Int), ())
 else (if Decidable.decide ((↑(List.length r0_3) : Int) ≥ (1 : Int)) = Bool.true then (if Decidable.decide ((↑(List.length r0_3) : Int) ≤ IntKind.wrap .i64 (sum14_3 + (1 : Int))) = Bool.true then some (Decidable.decide (all18_3 ≤ sum14_3), ())
 else some (Bool.false, ()))
 else some (Bool.false, ())))
  | none => none)
  | none => none))
 else some (Bool.false, ()))
 else none)
 else none))
 else some (first7.fn.1, ()))
 else some (first7.fn.1, ()))
 else none)
 else none)
 else none)
noncomputable def run (d : Ds (List.map PM.ty ps)) : Option (Ds (muts ps ++ List.map PM.ty rs)) := match d with
  | (n0, pairs1, est2, _) => run' n0 pairs1 est2
theorem run_is : ∀ d, runF env 152 code [6] ps rs d = run d := fun d => by kernel_rfl
theorem loops : LoopsOk env code := loopsOk_of (l := [[true, true, true, true, true, true, true, true, true, false, true, false, false], [true, true, true, true, true, true, true, true, true, true, true, false, true, false, false]]) (by kernel_rfl) (fun p hp => by
  simp only [List.mem_cons, List.not_mem_nil, or_false] at hp
  rcases hp with rfl | rfl
  · exact loopOk_lp (L := L12) (x := sub [true, true, true, true, true, true, true, true, true, false, true, false, false] code) (by kernel_rfl) (by simp [L12]) round12 ends12
  · exact loopOk_lp (L := L21) (x := sub [true, true, true, true, true, true, true, true, true, true, true, false, true, false, false] code) (by kernel_rfl) (by simp [L21]) round21 ends21
  )
noncomputable def pre (n0 : Int) (pairs1 : (List (Int × Int))) (est2 : (List Int)) : Bool := (run' n0 pairs1 est2).isSome
noncomputable def fn (n0 : Int) (pairs1 : (List (Int × Int))) (est2 : (List Int)) : D := match run' n0 pairs1 est2 with
  | some x => x
  | none => default
noncomputable def sig : Sig := ⟨ps, rs, fun d => match d with
  | (n0, pairs1, est2, _) => pre n0 pairs1 est2, fun d => match d with
  | (n0, pairs1, est2, _) => fn n0 pairs1 est2⟩
theorem run_fn (n0 : Int) (pairs1 : (List (Int × Int))) (est2 : (List Int)) (h : pre n0 pairs1 est2 = true) : run' n0 pairs1 est2 = some (fn n0 pairs1 est2) := by
  unfold pre at h
  unfold fn
  cases e : run' n0 pairs1 est2 with
  | some x => rfl
  | none => rw [e] at h; cases h
theorem is_fn (n0 : Int) (pairs1 : (List (Int × Int))) (est2 : (List Int)) {x : D} (h : run' n0 pairs1 est2 = some x) : pre n0 pairs1 est2 = true ∧ fn n0 pairs1 est2 = x := by
  unfold pre fn
  rw [h]
  exact ⟨rfl, rfl⟩
theorem sound {ρ : Obs} (hE : EnvOk Go.Proofs.Try.prog ρ env) : Sound Go.Proofs.Try.prog ρ 20 sig := sound_of (fn := Go.Proofs.Try.f20) (c := code) (res := [6]) hE (by kernel_rfl) (by kernel_rfl) (by kernel_rfl) (by kernel_rfl) (by kernel_rfl) loops rfl (show 3 ≤ 152 by decide) (fun d hd => (run_is d).trans (by
  obtain ⟨n0, pairs1, est2, _⟩ := d
  exact run_fn n0 pairs1 est2 hd))
theorem enters : Enters Go.Proofs.Try.prog 20 := enters_of (fn := Go.Proofs.Try.f20) (by kernel_rfl) (by kernel_rfl) (by kernel_rfl)
theorem ok {ρ : Obs} (h : ∀ p ∈ ([(66, first7.sig), (70, Made7.sig), (72, fits.sig), (76, RunH.sig), (74, num7.sig)] : List (FuncId × Sig)), Enters Go.Proofs.Try.prog p.1 ∧ Sound Go.Proofs.Try.prog ρ p.1 p.2) : Enters Go.Proofs.Try.prog 20 ∧ Sound Go.Proofs.Try.prog ρ 20 sig := ⟨enters, sound (envOk_of tabOk h)⟩
theorem okR : Enters Go.Proofs.Try.prog 20 ∧ Sound Go.Proofs.Try.prog rho 20 sig := ok (fun p hp => by
  simp only [List.mem_cons, List.not_mem_nil, or_false] at hp
  rcases hp with rfl | rfl | rfl | rfl | rfl
  · exact first7.okR
  · exact Made7.okR
  · exact fits.okR
  · exact RunH.okR
  · exact num7.okR)
end HindexMany
/-! pith/pithlaw7.HindexSteps -/
namespace HindexSteps
abbrev ps : List PM := [.val I64, .val (.list Pr), .val (.list I64)]
abbrev rs : List PM := [.val .bool]
noncomputable abbrev code : Code := (Go.Proofs.Try.f21.body.getD .skip)
abbrev s10 : Shape := ⟨[.v I64, .un, .un, .un, .un, .un, .un, .un, .v (.obj 0), .v (.list (.list I64)), .un, .row 0, .row 1, .v I64, .row 2, .v .bool, .v I64, .un, .un, .un, .un, .un, .un, .un, .un, .un, .un, .un, .un, .un, .un, .un, .un, .un, .un, .un, .un, .un, .un, .un, .un, .un, .un, .un, .un, .un, .un, .un, .un, .un, .un, .un, .un, .un, .un, .un, .un, .un, .un, .un, .un, .un, .un, .un, .un, .un, .un, .un, .un, .un, .un, .un, .un, .un, .un, .un, .un, .un, .un, .un, .un, .un, .un, .un, .un, .un, .un, .un, .un, .un, .un, .un, .un, .un, .un, .un, .un, .un, .un, .un, .un, .un, .un, .un, .un, .un, .un, .un, .un, .un, .un, .un, .un, .un, .un, .un, .un, .un, .un, .un, .un, .un, .un, .un, .un, .un, .un, .un, .un, .un, .un, .un, .un, .un, .un, .un, .un], [.row (3 : Go.TypeId) I64, .row (3 : Go.TypeId) I64, .row (3 : Go.TypeId) I64]⟩
abbrev x10 : List Way := [⟨(.ex 0), ⟨[(8, none), (11, none), (12, none), (13, none), (14, none), (15, none)]⟩, ⟨[.un, .un, .un, .un, .un, .un, .un, .un, .v (.obj 0), .un, .un, .row 0, .row 1, .v I64, .row 2, .v .bool, .un, .un, .un, .un, .un, .un, .un, .un, .un, .un, .un, .un, .un, .un, .un, .un, .un, .un, .un, .un, .un, .un, .un, .un, .un, .un, .un, .un, .un, .un, .un, .un, .un, .un, .un, .un, .un, .un, .un, .un, .un, .un, .un, .un, .un, .un, .un, .un, .un, .un, .un, .un, .un, .un, .un, .un, .un, .un, .un, .un, .un, .un, .un, .un, .un, .un, .un, .un, .un, .un, .un, .un, .un, .un, .un, .un, .un, .un, .un, .un, .un, .un, .un, .un, .un, .un, .un, .un, .un, .un, .un, .un, .un, .un, .un, .un, .un, .un, .un, .un, .un, .un, .un, .un, .un, .un, .un, .un, .un, .un, .un, .un, .un, .un, .un, .un, .un, .un, .un, .un, .un], [.row (3 : Go.TypeId) I64, .row (3 : Go.TypeId) I64, .row (3 : Go.TypeId) I64]⟩⟩]
abbrev V10 : Type := (Int × (Option Gr) × (List (List Int)) × Int × Bool × Int × Unit) × ((List Int) × (List Int) × (List Int) × Unit)
abbrev X10 : Type := ((Option Gr) × Int × Bool × Unit) × ((List Int) × (List Int) × (List Int) × Unit)
noncomputable def R10 {R : Type} (n0 : Int) (g8 : (Option Gr)) (lists9 : (List (List Int))) (e13 : Int) (again15 : Bool) (v16 : Int) (r0 : List Int) (r1 : List Int) (r2 : List Int) (k : V10 → Option R) (kx : X10 → Option R) : Option R := (if Decidable.decide (v16 < n0) = Bool.true then (if (0 : Int) ≤ v16 then (if v16 < (↑(List.length r2) : Int) then (if (0 : Int) ≤ v16 then (if v16 < (↑(List.length lists9) : Int) then (if Decidable.decide (List.getD r2 (Int.toNat v16) (0 : Int) > (↑(List.length (List.getD lists9 (Int.toNat v16) [])) : Int)) = Bool.true then (if (0 : Int) ≤ v16 then (if v16 < (↑(List.length lists9) : Int) then (if (0 : Int) ≤ v16 then (if v16 < (↑(List.length r2) : Int) then (if Int.toNat v16 < List.length r2 then (if again15 = Bool.false then (if (0 : Int) ≤ v16 then (if v16 < (↑(List.length lists9) : Int) then k ((n0, g8, lists9, e13, Decidable.decide ((↑(List.length (List.getD lists9 (Int.toNat v16) [])) : Int) > (0 : Int)), IntKind.wrap .i64 (v16 + (1 : Int)), ()), (r0, r1, List.set r2 (Int.toNat v16) (↑(List.length (List.getD lists9 (Int.toNat v16) [])) : Int), ()))
 else none)
 else none)
 else k ((n0, g8, lists9, e13, Bool.true, IntKind.wrap .i64 (v16 + (1 : Int)), ()), (r0, r1, List.set r2 (Int.toNat v16) (↑(List.length (List.getD lists9 (Int.toNat v16) [])) : Int), ())))
 else none)
 else none)
 else none)
 else none)
 else none)
 else (if again15 = Bool.false then (if (0 : Int) ≤ v16 then (if v16 < (↑(List.length lists9) : Int) then k ((n0, g8, lists9, e13, Decidable.decide ((↑(List.length (List.getD lists9 (Int.toNat v16) [])) : Int) > (0 : Int)), IntKind.wrap .i64 (v16 + (1 : Int)), ()), (r0, r1, r2, ()))
 else none)
 else none)
 else k ((n0, g8, lists9, e13, Bool.true, IntKind.wrap .i64 (v16 + (1 : Int)), ()), (r0, r1, r2, ()))))
 else none)
 else none)
 else none)
 else none)
 else kx (((g8, e13, again15, ()), (r0, r1, r2, ()))))
noncomputable def rd10 : Rd (VO s10) (Xs x10) := fun v k kx => match v with
  | ((n0, g8, lists9, e13, again15, v16, _), (r0, r1, r2, _)) => R10 n0 g8 lists9 e13 again15 v16 r0 r1 r2 k kx
noncomputable def F10 (n0 : Int) (g8 : (Option Gr)) (lists9 : (List (List Int))) (e13 : Int) (again15 : Bool) (v16 : Int) (r0 : List Int) (r1 : List Int) (r2 : List Int) : Option X10 := finOf rd10 ((n0, g8, lists9, e13, again15, v16, ()), (r0, r1, r2, ()))
theorem F10_inv {n0 : Int} {g8 : (Option Gr)} {lists9 : (List (List Int))} {e13 : Int} {r0 : List Int} {r1 : List Int} (I : Bool → Int → List Int → Prop) (μ : Bool → Int → List Int → Nat) (Q : X10 → Prop) (h : ∀ (again15 : Bool) (v16 : Int) (r2 : List Int), I again15 v16 r2 → Led (fun (R : Type) (k : V10 → Option R) (kx : X10 → Option R) => R10 n0 g8 lists9 e13 again15 v16 r0 r1 r2 k kx) (fun v => ∃ (again15' : Bool) (v16' : Int) (r2' : List Int), v = ((n0, g8, lists9, e13, again15', v16', ()), (r0, r1, r2', ())) ∧ I again15' v16' r2' ∧ μ again15' v16' r2' < μ again15 v16 r2) Q) : ∀ (again15 : Bool) (v16 : Int) (r2 : List Int), I again15 v16 r2 → ∃ z, F10 n0 g8 lists9 e13 again15 v16 r0 r1 r2 = some z ∧ Q z := fun again15 v16 r2 hi => by
  refine finOf_inv (V := V10) (X := X10) (rd := rd10) (fun v => ∃ (again15' : Bool) (v16' : Int) (r2' : List Int), v = ((n0, g8, lists9, e13, again15', v16', ()), (r0, r1, r2', ())) ∧ I again15' v16' r2') (fun v => match v with
    | ((n0, g8, lists9, e13, again15, v16, _), (r0, r1, r2, _)) => μ again15 v16 r2) Q (fun v hv => ?_) ((n0, g8, lists9, e13, again15, v16, ()), (r0, r1, r2, ())) ⟨again15, v16, r2, rfl, hi⟩
  obtain ⟨again15, v16, r2, rfl, hi⟩ := hv
  refine led_mono (h again15 v16 r2 hi) ?_ (fun _ q => q)
  rintro v ⟨again15', v16', r2', rfl, h1, h2⟩
  exact ⟨⟨again15', v16', r2', rfl, h1⟩, h2⟩
noncomputable def L10 : Lp := ⟨10, ⟨[(0, none), (8, none), (9, none), (11, none), (12, none), (13, none), (14, none), (15, none), (16, none)]⟩, s10, x10, fun v => match v with
  | ((n0, g8, lists9, e13, again15, v16, _), (r0, r1, r2, _)) => F10 n0 g8 lists9 e13 again15 v16 r0 r1 r2⟩
theorem ends10 : Ends L10 rd10 := ends_fin (fun v => by
  obtain ⟨⟨n0, g8, lists9, e13, again15, v16, _⟩, ⟨r0, r1, r2, _⟩⟩ := v
  rfl)
abbrev s16 : Shape := ⟨[.un, .un, .un, .un, .un, .un, .un, .un, .v (.obj 0), .un, .un, .row 0, .row 1, .v I64, .row 2, .v .bool, .un, .v I64, .un, .un, .un, .un, .un, .un, .un, .un, .un, .un, .un, .un, .un, .un, .un, .un, .un, .un, .un, .un, .un, .un, .un, .un, .un, .un, .un, .un, .un, .un, .un, .un, .un, .un, .un, .un, .un, .un, .un, .un, .un, .un, .un, .un, .un, .un, .un, .un, .un, .un, .un, .un, .un, .un, .un, .un, .un, .un, .un, .un, .un, .un, .un, .un, .un, .un, .un, .un, .un, .un, .un, .un, .un, .un, .un, .un, .un, .un, .un, .un, .un, .un, .un, .un, .un, .un, .un, .un, .un, .un, .un, .un, .un, .un, .un, .un, .un, .un, .un, .un, .un, .un, .un, .un, .un, .un, .un, .un, .un, .un, .un, .un, .un, .un, .un, .un, .un, .un, .un], [.row (3 : Go.TypeId) I64, .row (3 : Go.TypeId) I64, .row (3 : Go.TypeId) I64]⟩
abbrev x16 : List Way := [⟨.rt, ⟨[(6, none)]⟩, ⟨[.un, .un, .un, .un, .un, .un, .v .bool, .un, .un, .un, .un, .un, .un, .un, .un, .un, .un, .un, .un, .un, .un, .un, .un, .un, .un, .un, .un, .un, .un, .un, .un, .un, .un, .un, .un, .un, .un, .un, .un, .un, .un, .un, .un, .un, .un, .un, .un, .un, .un, .un, .un, .un, .un, .un, .un, .un, .un, .un, .un, .un, .un, .un, .un, .un, .un, .un, .un, .un, .un, .un, .un, .un, .un, .un, .un, .un, .un, .un, .un, .un, .un, .un, .un, .un, .un, .un, .un, .un, .un, .un, .un, .un, .un, .un, .un, .un, .un, .un, .un, .un, .un, .un, .un, .un, .un, .un, .un, .un, .un, .un, .un, .un, .un, .un, .un, .un, .un, .un, .un, .un, .un, .un, .un, .un, .un, .un, .un, .un, .un, .un, .un, .un, .un, .un, .un, .un, .un], []⟩⟩, ⟨(.ex 2), ⟨[(11, none), (12, none), (13, none), (14, none), (15, none), (17, none)]⟩, ⟨[.un, .un, .un, .un, .un, .un, .un, .un, .un, .un, .un, .row 0, .row 1, .v I64, .row 2, .v .bool, .un, .v I64, .un, .un, .un, .un, .un, .un, .un, .un, .un, .un, .un, .un, .un, .un, .un, .un, .un, .un, .un, .un, .un, .un, .un, .un, .un, .un, .un, .un, .un, .un, .un, .un, .un, .un, .un, .un, .un, .un, .un, .un, .un, .un, .un, .un, .un, .un, .un, .un, .un, .un, .un, .un, .un, .un, .un, .un, .un, .un, .un, .un, .un, .un, .un, .un, .un, .un, .un, .un, .un, .un, .un, .un, .un, .un, .un, .un, .un, .un, .un, .un, .un, .un, .un, .un, .un, .un, .un, .un, .un, .un, .un, .un, .un, .un, .un, .un, .un, .un, .un, .un, .un, .un, .un, .un, .un, .un, .un, .un, .un, .un, .un, .un, .un, .un, .un, .un, .un, .un, .un], [.row (3 : Go.TypeId) I64, .row (3 : Go.TypeId) I64, .row (3 : Go.TypeId) I64]⟩⟩]
abbrev V16 : Type := ((Option Gr) × Int × Bool × Int × Unit) × ((List Int) × (List Int) × (List Int) × Unit)
abbrev X16 : Type := ((Bool × Unit) × (Unit)) ⊕ ((Int × Bool × Int × Unit) × ((List Int) × (List Int) × (List Int) × Unit))
noncomputable def R16 {R : Type} (g8 : (Option Gr)) (e13 : Int) (again15 : Bool) (i17 : Int) (r0 : List Int) (r1 : List Int) (r2 : List Int) (k : V16 → Option R) (kx : X16 → Option R) : Option R := (if again15 = Bool.true then (if Decidable.decide (i17 < (400 : Int)) = Bool.true then (if SweepH.pre g8 r2 = Bool.true then (if num7.pre (SweepH.fn g8 r2).2.2.2.1 = Bool.true then (if ((num7.fn (SweepH.fn g8 r2).2.2.2.1).1 != (0 : Int)) = Bool.false then (if Decidable.decide (i17 ≥ (↑(List.length r1) : Int)) = Bool.false then (if (0 : Int) ≤ i17 then (if i17 < (↑(List.length r1) : Int) then (if (List.getD r1 (Int.toNat i17) (0 : Int) != (SweepH.fn g8 r2).2.1) = Bool.true then kx (Sum.inl <| ((Bool.false, ()), (())))
 else k ((g8, e13, (SweepH.fn g8 r2).2.2.1, IntKind.wrap .i64 (i17 + (1 : Int)), ()), (r0, r1, (SweepH.fn g8 r2).1, ())))
 else none)
 else none)
 else kx (Sum.inl <| ((Bool.false, ()), (()))))
 else kx (Sum.inl <| ((Bool.false, ()), (()))))
 else none)
 else none)
 else kx (Sum.inr <| ((e13, again15, i17, ()), (r0, r1, r2, ()))))
 else kx (Sum.inr <| ((e13, again15, i17, ()), (r0, r1, r2, ()))))
noncomputable def rd16 : Rd (VO s16) (Xs x16) := fun v k kx => match v with
  | ((g8, e13, again15, i17, _), (r0, r1, r2, _)) => R16 g8 e13 again15 i17 r0 r1 r2 k kx
noncomputable def F16 (g8 : (Option Gr)) (e13 : Int) (again15 : Bool) (i17 : Int) (r0 : List Int) (r1 : List Int) (r2 : List Int) : Option X16 := finOf rd16 ((g8, e13, again15, i17, ()), (r0, r1, r2, ()))
theorem F16_inv {g8 : (Option Gr)} {e13 : Int} {r0 : List Int} {r1 : List Int} (I : Bool → Int → List Int → Prop) (μ : Bool → Int → List Int → Nat) (Q : X16 → Prop) (h : ∀ (again15 : Bool) (i17 : Int) (r2 : List Int), I again15 i17 r2 → Led (fun (R : Type) (k : V16 → Option R) (kx : X16 → Option R) => R16 g8 e13 again15 i17 r0 r1 r2 k kx) (fun v => ∃ (again15' : Bool) (i17' : Int) (r2' : List Int), v = ((g8, e13, again15', i17', ()), (r0, r1, r2', ())) ∧ I again15' i17' r2' ∧ μ again15' i17' r2' < μ again15 i17 r2) Q) : ∀ (again15 : Bool) (i17 : Int) (r2 : List Int), I again15 i17 r2 → ∃ z, F16 g8 e13 again15 i17 r0 r1 r2 = some z ∧ Q z := fun again15 i17 r2 hi => by
  refine finOf_inv (V := V16) (X := X16) (rd := rd16) (fun v => ∃ (again15' : Bool) (i17' : Int) (r2' : List Int), v = ((g8, e13, again15', i17', ()), (r0, r1, r2', ())) ∧ I again15' i17' r2') (fun v => match v with
    | ((g8, e13, again15, i17, _), (r0, r1, r2, _)) => μ again15 i17 r2) Q (fun v hv => ?_) ((g8, e13, again15, i17, ()), (r0, r1, r2, ())) ⟨again15, i17, r2, rfl, hi⟩
  obtain ⟨again15, i17, r2, rfl, hi⟩ := hv
  refine led_mono (h again15 i17 r2 hi) ?_ (fun _ q => q)
  rintro v ⟨again15', i17', r2', rfl, h1, h2⟩
  exact ⟨⟨again15', i17', r2', rfl, h1⟩, h2⟩
noncomputable def L16 : Lp := ⟨16, ⟨[(8, none), (11, none), (12, none), (13, none), (14, none), (15, none), (17, none)]⟩, s16, x16, fun v => match v with
  | ((g8, e13, again15, i17, _), (r0, r1, r2, _)) => F16 g8 e13 again15 i17 r0 r1 r2⟩
theorem ends16 : Ends L16 rd16 := ends_fin (fun v => by
  obtain ⟨⟨g8, e13, again15, i17, _⟩, ⟨r0, r1, r2, _⟩⟩ := v
  rfl)
noncomputable def env : Env := mkEnv tab [(66, first7.sig), (70, Made7.sig), (72, fits.sig), (76, RunH.sig), (67, IntsO.sig), (71, SweepH.sig), (74, num7.sig), (53, SameIntsH.sig)] 0 [(12, [0, 1, 2, 3, 4, 5, 6, 7, 8, 9])] [L10, L16]
theorem round10 : RoundIs env (sub [true, true, true, true, true, true, true, true, false, true, false, false] code) L10 rd10 := fun R v k kx => by kernel_rfl
theorem round16 : RoundIs env (sub [true, true, true, true, true, true, true, true, true, true, false, false, false] code) L16 rd16 := fun R v k kx => by kernel_rfl
abbrev D : Type := (Bool × Unit)
noncomputable def run' (n0 : Int) (pairs1 : (List (Int × Int))) (est2 : (List Int)) : Option D := (if first7.pre = Bool.true then (if Made7.pre n0 pairs1 = Bool.true then (if fits.pre est2 n0 = Bool.true then (if (!first7.fn.1) = Bool.false then (if Option.isNone (Made7.fn n0 pairs1).1 = Bool.false then (if (!(fits.fn est2 n0).1) = Bool.true then some (first7.fn.1, ())
 else (if RunH.pre (Made7.fn n0 pairs1).1 est2 = Bool.true then (if IntsO.pre est2 = Bool.true then (match F10 (n0) ((Made7.fn n0 pairs1).1) ((Made7.fn n0 pairs1).2.1) ((RunH.fn (Made7.fn n0 pairs1).1 est2).2.2.1) (Bool.false) ((0 : Int)) ((RunH.fn (Made7.fn n0 pairs1).1 est2).1) ((RunH.fn (Made7.fn n0 pairs1).1 est2).2.1) ((IntsO.fn est2).1) with
  | some (((g8_1, e13_1, again15_1, _), (r0_1, r1_1, r2_1, _))) => (match F16 (g8_1) (e13_1) (again15_1) ((0 : Int)) (r0_1) (r1_1) (r2_1) with
  | some (Sum.inl <| ((t6_2, _), _)) => some (t6_2, ())
  | some (Sum.inr <| ((e13_3, again15_3, i17_3, _), (r0_3, r1_3, r2_3, _))) => (if SameIntsH.pre r2_3 r0_3 = Bool.true then (if num7.pre e13_3 = Bool.true then (if ((num7.fn e13_3).1 == (0 : Int)) = Bool.true then (if again15_3 = Bool.false then (if (SameIntsH.fn r2_3 r0_3).1 = Bool.true then some (i17_3 == (↑(List.length r1_3) : Int), ())
 else some (Bool.false, ()))
 else some (Bool.true, ()))
 else some (Bool.false, ()))
 else none)
 else none)
  | none => none)
  | none => none)
 else none)
 else none))
 else some (first7.fn.1, ()))
 else some (first7.fn.1, ()))
 else none)
 else none)
 else none)
noncomputable def run (d : Ds (List.map PM.ty ps)) : Option (Ds (muts ps ++ List.map PM.ty rs)) := match d with
  | (n0, pairs1, est2, _) => run' n0 pairs1 est2
theorem run_is : ∀ d, runF env 137 code [6] ps rs d = run d := fun d => by kernel_rfl
theorem loops : LoopsOk env code := loopsOk_of (l := [[true, true, true, true, true, true, true, true, false, true, false, false], [true, true, true, true, true, true, true, true, true, true, false, false, false]]) (by kernel_rfl) (fun p hp => by
  simp only [List.mem_cons, List.not_mem_nil, or_false] at hp
  rcases hp with rfl | rfl
  · exact loopOk_lp (L := L10) (x := sub [true, true, true, true, true, true, true, true, false, true, false, false] code) (by kernel_rfl) (by simp [L10]) round10 ends10
  · exact loopOk_lp (L := L16) (x := sub [true, true, true, true, true, true, true, true, true, true, false, false, false] code) (by kernel_rfl) (by simp [L16]) round16 ends16
  )
noncomputable def pre (n0 : Int) (pairs1 : (List (Int × Int))) (est2 : (List Int)) : Bool := (run' n0 pairs1 est2).isSome
noncomputable def fn (n0 : Int) (pairs1 : (List (Int × Int))) (est2 : (List Int)) : D := match run' n0 pairs1 est2 with
  | some x => x
  | none => default
noncomputable def sig : Sig := ⟨ps, rs, fun d => match d with
  | (n0, pairs1, est2, _) => pre n0 pairs1 est2, fun d => match d with
  | (n0, pairs1, est2, _) => fn n0 pairs1 est2⟩
theorem run_fn (n0 : Int) (pairs1 : (List (Int × Int))) (est2 : (List Int)) (h : pre n0 pairs1 est2 = true) : run' n0 pairs1 est2 = some (fn n0 pairs1 est2) := by
  unfold pre at h
  unfold fn
  cases e : run' n0 pairs1 est2 with
  | some x => rfl
  | none => rw [e] at h; cases h
theorem is_fn (n0 : Int) (pairs1 : (List (Int × Int))) (est2 : (List Int)) {x : D} (h : run' n0 pairs1 est2 = some x) : pre n0 pairs1 est2 = true ∧ fn n0 pairs1 est2 = x := by
  unfold pre fn
  rw [h]
  exact ⟨rfl, rfl⟩
theorem sound {ρ : Obs} (hE : EnvOk Go.Proofs.Try.prog ρ env) : Sound Go.Proofs.Try.prog ρ 21 sig := sound_of (fn := Go.Proofs.Try.f21) (c := code) (res := [6]) hE (by kernel_rfl) (by kernel_rfl) (by kernel_rfl) (by kernel_rfl) (by kernel_rfl) loops rfl (show 3 ≤ 137 by decide) (fun d hd => (run_is d).trans (by
  obtain ⟨n0, pairs1, est2, _⟩ := d
  exact run_fn n0 pairs1 est2 hd))
theorem enters : Enters Go.Proofs.Try.prog 21 := enters_of (fn := Go.Proofs.Try.f21) (by kernel_rfl) (by kernel_rfl) (by kernel_rfl)
theorem ok {ρ : Obs} (h : ∀ p ∈ ([(66, first7.sig), (70, Made7.sig), (72, fits.sig), (76, RunH.sig), (67, IntsO.sig), (71, SweepH.sig), (74, num7.sig), (53, SameIntsH.sig)] : List (FuncId × Sig)), Enters Go.Proofs.Try.prog p.1 ∧ Sound Go.Proofs.Try.prog ρ p.1 p.2) : Enters Go.Proofs.Try.prog 21 ∧ Sound Go.Proofs.Try.prog ρ 21 sig := ⟨enters, sound (envOk_of tabOk h)⟩
theorem okR : Enters Go.Proofs.Try.prog 21 ∧ Sound Go.Proofs.Try.prog rho 21 sig := ok (fun p hp => by
  simp only [List.mem_cons, List.not_mem_nil, or_false] at hp
  rcases hp with rfl | rfl | rfl | rfl | rfl | rfl | rfl | rfl
  · exact first7.okR
  · exact Made7.okR
  · exact fits.okR
  · exact RunH.okR
  · exact IntsO.okR
  · exact SweepH.okR
  · exact num7.okR
  · exact SameIntsH.okR)
end HindexSteps
end Go.Proofs.Ythbojpaghbbnnaa.Z
