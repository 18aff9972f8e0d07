/- What functions compute from plain values: both, GraphWithin. Printed by a small program of ours (zgen, zg.py); no condition. -/
import Derived.Test.YthbojpaghbbnnaaZN
import Derived.Test.YthbojpaghbbnnaaZT
import Derived.Test.YthbojpaghbbnnaaZP
import Derived.Test.YthbojpaghbbnnaaZS
import Derived.Test.YthbojpaghbbnnaaWF
import Derived.KernelRfl
namespace Go.Proofs.Ythbojpaghbbnnaa.Z
open Go Go.RowKit
set_option linter.unusedVariables false
set_option linter.unusedSimpArgs false
/-! pith/pithlaw5.both -/
namespace both
abbrev ps : List PM := [.val (.list .bool), .val (.list .bool)]
abbrev rs : List PM := [.val (.list .bool)]
noncomputable abbrev code : Code := (Go.Proofs.Try.f42.body.getD .skip)
abbrev s3 : Shape := ⟨[.v (.list .bool), .v (.list .bool), .un, .un, .un, .row 0, .v I64, .un, .un, .un, .un, .un, .un, .un, .un, .un, .un, .un, .un, .un, .un, .un, .un, .un, .un, .un, .un, .un, .un, .un, .un, .un, .un], [.row (4 : Go.TypeId) .bool]⟩
abbrev x3 : List Way := [⟨(.ex 0), ⟨[(5, some (.inl ((4 : Go.TypeId), .bool)))]⟩, ⟨[.un, .un, .un, .un, .un, .row 0, .un, .un, .un, .un, .un, .un, .un, .un, .un, .un, .un, .un, .un, .un, .un, .un, .un, .un, .un, .un, .un, .un, .un, .un, .un, .un, .un], [.row (4 : Go.TypeId) .bool]⟩⟩]
abbrev V3 : Type := ((List Bool) × (List Bool) × Int × Unit) × ((List Bool) × Unit)
abbrev X3 : Type := (Unit) × ((List Bool) × Unit)
noncomputable def R3 {R : Type} (a0 : (List Bool)) (b1 : (List Bool)) (i6 : Int) (r0 : List Bool) (k : V3 → Option R) (kx : X3 → Option R) : Option R := (if Decidable.decide (i6 < (↑(List.length a0) : Int)) = Bool.true then (if Decidable.decide (i6 < (↑(List.length b1) : Int)) = Bool.true then (if (0 : Int) ≤ i6 then (if i6 < (↑(List.length a0) : Int) then (if List.getD a0 (Int.toNat i6) Bool.false = Bool.true then (if (0 : Int) ≤ i6 then (if i6 < (↑(List.length b1) : Int) then (if (List.length r0 + List.length [List.getD b1 (Int.toNat i6) Bool.false]) * (1 : Nat) ≤ (140737488355328 : Nat) then k ((a0, b1, IntKind.wrap .i64 (i6 + (1 : Int)), ()), (r0 ++ [List.getD b1 (Int.toNat i6) Bool.false], ()))
 else none)
 else none)
 else none)
 else (if (List.length r0 + List.length [Bool.false]) * (1 : Nat) ≤ (140737488355328 : Nat) then k ((a0, b1, IntKind.wrap .i64 (i6 + (1 : Int)), ()), (r0 ++ [Bool.false], ()))
 else none))
 else none)
 else none)
 else kx (((()), (r0, ()))))
 else kx (((()), (r0, ()))))
noncomputable def rd3 : Rd (VO s3) (Xs x3) := fun v k kx => match v with
  | ((a0, b1, i6, _), (r0, _)) => R3 a0 b1 i6 r0 k kx
noncomputable def F3 (a0 : (List Bool)) (b1 : (List Bool)) (i6 : Int) (r0 : List Bool) : Option X3 := finOf rd3 ((a0, b1, i6, ()), (r0, ()))
theorem F3_inv {a0 : (List Bool)} {b1 : (List Bool)} (I : Int → List Bool → Prop) (μ : Int → List Bool → Nat) (Q : X3 → Prop) (h : ∀ (i6 : Int) (r0 : List Bool), I i6 r0 → Led (fun (R : Type) (k : V3 → Option R) (kx : X3 → Option R) => R3 a0 b1 i6 r0 k kx) (fun v => ∃ (i6' : Int) (r0' : List Bool), v = ((a0, b1, i6', ()), (r0', ())) ∧ I i6' r0' ∧ μ i6' r0' < μ i6 r0) Q) : ∀ (i6 : Int) (r0 : List Bool), I i6 r0 → ∃ z, F3 a0 b1 i6 r0 = some z ∧ Q z := fun i6 r0 hi => by
  refine finOf_inv (V := V3) (X := X3) (rd := rd3) (fun v => ∃ (i6' : Int) (r0' : List Bool), v = ((a0, b1, i6', ()), (r0', ())) ∧ I i6' r0') (fun v => match v with
    | ((a0, b1, i6, _), (r0, _)) => μ i6 r0) Q (fun v hv => ?_) ((a0, b1, i6, ()), (r0, ())) ⟨i6, r0, rfl, hi⟩
  obtain ⟨i6, r0, rfl, hi⟩ := hv
  refine led_mono (h i6 r0 hi) ?_ (fun _ q => q)
  rintro v ⟨i6', r0', rfl, h1, h2⟩
  exact ⟨⟨i6', r0', rfl, h1⟩, h2⟩
noncomputable def L3 : Lp := ⟨3, ⟨[(0, none), (1, none), (5, some (.inl ((4 : Go.TypeId), .bool))), (6, none)]⟩, s3, x3, fun v => match v with
  | ((a0, b1, i6, _), (r0, _)) => F3 a0 b1 i6 r0⟩
theorem ends3 : Ends L3 rd3 := ends_fin (fun v => by
  obtain ⟨⟨a0, b1, i6, _⟩, ⟨r0, _⟩⟩ := v
  rfl)
noncomputable def env : Env := mkEnv tab [] 0 [] [L3]
theorem round3 : RoundIs env (sub [true, true, false, true, false, false] code) L3 rd3 := fun R v k kx => by kernel_rfl
abbrev D : Type := ((List Bool) × Unit)
noncomputable def run' (a0 : (List Bool)) (b1 : (List Bool)) : Option D := (match F3 (a0) (b1) ((0 : Int)) ([]) with
  | some ((_, (r0_1, _))) => some (r0_1, ())
  | none => none)
noncomputable def run (d : Ds (List.map PM.ty ps)) : Option (Ds (muts ps ++ List.map PM.ty rs)) := match d with
  | (a0, b1, _) => run' a0 b1
theorem run_is : ∀ d, runF env 33 code [4] ps rs d = run d := fun d => by kernel_rfl
theorem loops : LoopsOk env code := loopsOk_of (l := [[true, true, false, true, false, false]]) (by kernel_rfl) (fun p hp => by
  simp only [List.mem_cons, List.not_mem_nil, or_false] at hp
  rcases hp with rfl
  · exact loopOk_lp (L := L3) (x := sub [true, true, false, true, false, false] code) (by kernel_rfl) (by simp [L3]) round3 ends3
  )
noncomputable def pre (a0 : (List Bool)) (b1 : (List Bool)) : Bool := (run' a0 b1).isSome
noncomputable def fn (a0 : (List Bool)) (b1 : (List Bool)) : D := match run' a0 b1 with
  | some x => x
  | none => default
noncomputable def sig : Sig := ⟨ps, rs, fun d => match d with
  | (a0, b1, _) => pre a0 b1, fun d => match d with
  | (a0, b1, _) => fn a0 b1⟩
theorem run_fn (a0 : (List Bool)) (b1 : (List Bool)) (h : pre a0 b1 = true) : run' a0 b1 = some (fn a0 b1) := by
  unfold pre at h
  unfold fn
  cases e : run' a0 b1 with
  | some x => rfl
  | none => rw [e] at h; cases h
theorem is_fn (a0 : (List Bool)) (b1 : (List Bool)) {x : D} (h : run' a0 b1 = some x) : pre a0 b1 = true ∧ fn a0 b1 = x := by
  unfold pre fn
  rw [h]
  exact ⟨rfl, rfl⟩
theorem sound {ρ : Obs} (hE : EnvOk Go.Proofs.Try.prog ρ env) : Sound Go.Proofs.Try.prog ρ 42 sig := sound_of (fn := Go.Proofs.Try.f42) (c := code) (res := [4]) hE (by kernel_rfl) (by kernel_rfl) (by kernel_rfl) (by kernel_rfl) (by kernel_rfl) loops rfl (show 2 ≤ 33 by decide) (fun d hd => (run_is d).trans (by
  obtain ⟨a0, b1, _⟩ := d
  exact run_fn a0 b1 hd))
theorem enters : Enters Go.Proofs.Try.prog 42 := enters_of (fn := Go.Proofs.Try.f42) (by kernel_rfl) (by kernel_rfl) (by kernel_rfl)
theorem ok {ρ : Obs} (h : ∀ p ∈ ([] : List (FuncId × Sig)), Enters Go.Proofs.Try.prog p.1 ∧ Sound Go.Proofs.Try.prog ρ p.1 p.2) : Enters Go.Proofs.Try.prog 42 ∧ Sound Go.Proofs.Try.prog ρ 42 sig := ⟨enters, sound (envOk_of tabOk h)⟩
theorem okR : Enters Go.Proofs.Try.prog 42 ∧ Sound Go.Proofs.Try.prog rho 42 sig := ok (fun p hp => by
  cases hp)
end both
/-! pith/pithlaw5.GraphWithin -/
namespace GraphWithin
abbrev ps : List PM := [.val I64, .val (.list Pr), .val (.list .bool), .val (.list .bool), .val I64, .val I64]
abbrev rs : List PM := [.val .bool]
noncomputable abbrev code : Code := (Go.Proofs.Try.f6.body.getD .skip)
abbrev s13 : Shape := ⟨[.v I64, .un, .v (.list .bool), .v (.list .bool), .v I64, .v I64, .un, .un, .un, .un, .un, .un, .un, .un, .un, .v (.obj 0), .v (.obj 0), .row 0, .v I64, .un, .un, .un, .un, .un, .un, .un, .un, .un, .un, .un, .un, .un, .un, .un, .un, .un, .un, .un, .un, .un, .un, .un, .un, .un, .un, .un, .un, .un, .un, .un, .un, .un, .un, .un, .un, .un, .un, .un, .un, .un, .un, .un, .un, .un, .un, .un, .un, .un, .un, .un, .un, .un, .un, .un, .un, .un, .un, .un, .un, .un, .un, .un, .un, .un, .un, .un, .un, .un, .un, .un, .un, .un, .un, .un, .un, .un, .un, .un, .un, .un, .un, .un, .un, .un, .un, .un, .un, .un, .un, .un, .un, .un, .un, .un, .un, .un, .un, .un, .un, .un, .un, .un, .un, .un, .un, .un, .un, .un, .un, .un, .un, .un, .un, .un, .un, .un, .un, .un, .un, .un, .un, .un, .un, .un, .un, .un, .un, .un, .un, .un, .un, .un, .un, .un, .un, .un, .un, .un, .un, .un, .un, .un, .un, .un, .un, .un, .un, .un, .un, .un, .un, .un, .un, .un, .un, .un, .un, .un, .un, .un, .un, .un, .un, .un, .un, .un, .un, .un, .un, .un, .un, .un, .un, .un, .un, .un, .un, .un, .un, .un, .un, .un, .un, .un, .un, .un, .un, .un, .un, .un, .un, .un, .un, .un, .un, .un, .un, .un, .un, .un, .un, .un, .un, .un, .un, .un, .un, .un, .un, .un], [.row (4 : Go.TypeId) .bool]⟩
abbrev x13 : List Way := [⟨(.ex 0), ⟨[(0, none), (2, none), (3, none), (4, none), (5, none), (15, none), (16, none), (17, none)]⟩, ⟨[.v I64, .un, .v (.list .bool), .v (.list .bool), .v I64, .v I64, .un, .un, .un, .un, .un, .un, .un, .un, .un, .v (.obj 0), .v (.obj 0), .row 0, .un, .un, .un, .un, .un, .un, .un, .un, .un, .un, .un, .un, .un, .un, .un, .un, .un, .un, .un, .un, .un, .un, .un, .un, .un, .un, .un, .un, .un, .un, .un, .un, .un, .un, .un, .un, .un, .un, .un, .un, .un, .un, .un, .un, .un, .un, .un, .un, .un, .un, .un, .un, .un, .un, .un, .un, .un, .un, .un, .un, .un, .un, .un, .un, .un, .un, .un, .un, .un, .un, .un, .un, .un, .un, .un, .un, .un, .un, .un, .un, .un, .un, .un, .un, .un, .un, .un, .un, .un, .un, .un, .un, .un, .un, .un, .un, .un, .un, .un, .un, .un, .un, .un, .un, .un, .un, .un, .un, .un, .un, .un, .un, .un, .un, .un, .un, .un, .un, .un, .un, .un, .un, .un, .un, .un, .un, .un, .un, .un, .un, .un, .un, .un, .un, .un, .un, .un, .un, .un, .un, .un, .un, .un, .un, .un, .un, .un, .un, .un, .un, .un, .un, .un, .un, .un, .un, .un, .un, .un, .un, .un, .un, .un, .un, .un, .un, .un, .un, .un, .un, .un, .un, .un, .un, .un, .un, .un, .un, .un, .un, .un, .un, .un, .un, .un, .un, .un, .un, .un, .un, .un, .un, .un, .un, .un, .un, .un, .un, .un, .un, .un, .un, .un, .un, .un, .un, .un, .un, .un, .un, .un, .un], [.row (4 : Go.TypeId) .bool]⟩⟩]
abbrev V13 : Type := (Int × (List Bool) × (List Bool) × Int × Int × (Option Gr) × (Option Gr) × Int × Unit) × ((List Bool) × Unit)
abbrev X13 : Type := (Int × (List Bool) × (List Bool) × Int × Int × (Option Gr) × (Option Gr) × Unit) × ((List Bool) × Unit)
noncomputable def R13 {R : Type} (n0 : Int) (a2 : (List Bool)) (b3 : (List Bool)) (u4 : Int) (v5 : Int) (g15 : (Option Gr)) (x16 : (Option Gr)) (i18 : Int) (r0 : List Bool) (k : V13 → Option R) (kx : X13 → Option R) : Option R := (if Decidable.decide (i18 < n0) = Bool.true then (if (0 : Int) ≤ i18 then (if i18 < (↑(List.length r0) : Int) then (if Int.toNat i18 < List.length r0 then k ((n0, a2, b3, u4, v5, g15, x16, IntKind.wrap .i64 (i18 + (1 : Int)), ()), (List.set r0 (Int.toNat i18) Bool.true, ()))
 else none)
 else none)
 else none)
 else kx (((n0, a2, b3, u4, v5, g15, x16, ()), (r0, ()))))
noncomputable def rd13 : Rd (VO s13) (Xs x13) := fun v k kx => match v with
  | ((n0, a2, b3, u4, v5, g15, x16, i18, _), (r0, _)) => R13 n0 a2 b3 u4 v5 g15 x16 i18 r0 k kx
noncomputable def F13 (n0 : Int) (a2 : (List Bool)) (b3 : (List Bool)) (u4 : Int) (v5 : Int) (g15 : (Option Gr)) (x16 : (Option Gr)) (i18 : Int) (r0 : List Bool) : Option X13 := finOf rd13 ((n0, a2, b3, u4, v5, g15, x16, i18, ()), (r0, ()))
theorem F13_inv {n0 : Int} {a2 : (List Bool)} {b3 : (List Bool)} {u4 : Int} {v5 : Int} {g15 : (Option Gr)} {x16 : (Option Gr)} (I : Int → List Bool → Prop) (μ : Int → List Bool → Nat) (Q : X13 → Prop) (h : ∀ (i18 : Int) (r0 : List Bool), I i18 r0 → Led (fun (R : Type) (k : V13 → Option R) (kx : X13 → Option R) => R13 n0 a2 b3 u4 v5 g15 x16 i18 r0 k kx) (fun v => ∃ (i18' : Int) (r0' : List Bool), v = ((n0, a2, b3, u4, v5, g15, x16, i18', ()), (r0', ())) ∧ I i18' r0' ∧ μ i18' r0' < μ i18 r0) Q) : ∀ (i18 : Int) (r0 : List Bool), I i18 r0 → ∃ z, F13 n0 a2 b3 u4 v5 g15 x16 i18 r0 = some z ∧ Q z := fun i18 r0 hi => by
  refine finOf_inv (V := V13) (X := X13) (rd := rd13) (fun v => ∃ (i18' : Int) (r0' : List Bool), v = ((n0, a2, b3, u4, v5, g15, x16, i18', ()), (r0', ())) ∧ I i18' r0') (fun v => match v with
    | ((n0, a2, b3, u4, v5, g15, x16, i18, _), (r0, _)) => μ i18 r0) Q (fun v hv => ?_) ((n0, a2, b3, u4, v5, g15, x16, i18, ()), (r0, ())) ⟨i18, r0, rfl, hi⟩
  obtain ⟨i18, r0, rfl, hi⟩ := hv
  refine led_mono (h i18 r0 hi) ?_ (fun _ q => q)
  rintro v ⟨i18', r0', rfl, h1, h2⟩
  exact ⟨⟨i18', r0', rfl, h1⟩, h2⟩
noncomputable def L13 : Lp := ⟨13, ⟨[(0, none), (2, none), (3, none), (4, none), (5, none), (15, none), (16, none), (17, none), (18, none)]⟩, s13, x13, fun v => match v with
  | ((n0, a2, b3, u4, v5, g15, x16, i18, _), (r0, _)) => F13 n0 a2 b3 u4 v5 g15 x16 i18 r0⟩
theorem ends13 : Ends L13 rd13 := ends_fin (fun v => by
  obtain ⟨⟨n0, a2, b3, u4, v5, g15, x16, i18, _⟩, ⟨r0, _⟩⟩ := v
  rfl)
abbrev s18 : Shape := ⟨[.v I64, .un, .v (.list .bool), .v (.list .bool), .v I64, .v I64, .un, .un, .un, .un, .un, .un, .un, .un, .un, .v (.obj 0), .v (.obj 0), .row 0, .un, .v (.list (.pair I64 I64)), .v I64, .un, .un, .un, .un, .un, .un, .un, .un, .un, .un, .un, .un, .un, .un, .un, .un, .un, .un, .un, .un, .un, .un, .un, .un, .un, .un, .un, .un, .un, .un, .un, .un, .un, .un, .un, .un, .un, .un, .un, .un, .un, .un, .un, .un, .un, .un, .un, .un, .un, .un, .un, .un, .un, .un, .un, .un, .un, .un, .un, .un, .un, .un, .un, .un, .un, .un, .un, .un, .un, .un, .un, .un, .un, .un, .un, .un, .un, .un, .un, .un, .un, .un, .un, .un, .un, .un, .un, .un, .un, .un, .un, .un, .un, .un, .un, .un, .un, .un, .un, .un, .un, .un, .un, .un, .un, .un, .un, .un, .un, .un, .un, .un, .un, .un, .un, .un, .un, .un, .un, .un, .un, .un, .un, .un, .un, .un, .un, .un, .un, .un, .un, .un, .un, .un, .un, .un, .un, .un, .un, .un, .un, .un, .un, .un, .un, .un, .un, .un, .un, .un, .un, .un, .un, .un, .un, .un, .un, .un, .un, .un, .un, .un, .un, .un, .un, .un, .un, .un, .un, .un, .un, .un, .un, .un, .un, .un, .un, .un, .un, .un, .un, .un, .un, .un, .un, .un, .un, .un, .un, .un, .un, .un, .un, .un, .un, .un, .un, .un, .un, .un, .un, .un, .un, .un, .un, .un, .un, .un, .un], [.row (4 : Go.TypeId) .bool]⟩
abbrev x18 : List Way := [⟨.rt, ⟨[(12, none)]⟩, ⟨[.un, .un, .un, .un, .un, .un, .un, .un, .un, .un, .un, .un, .v .bool, .un, .un, .un, .un, .un, .un, .un, .un, .un, .un, .un, .un, .un, .un, .un, .un, .un, .un, .un, .un, .un, .un, .un, .un, .un, .un, .un, .un, .un, .un, .un, .un, .un, .un, .un, .un, .un, .un, .un, .un, .un, .un, .un, .un, .un, .un, .un, .un, .un, .un, .un, .un, .un, .un, .un, .un, .un, .un, .un, .un, .un, .un, .un, .un, .un, .un, .un, .un, .un, .un, .un, .un, .un, .un, .un, .un, .un, .un, .un, .un, .un, .un, .un, .un, .un, .un, .un, .un, .un, .un, .un, .un, .un, .un, .un, .un, .un, .un, .un, .un, .un, .un, .un, .un, .un, .un, .un, .un, .un, .un, .un, .un, .un, .un, .un, .un, .un, .un, .un, .un, .un, .un, .un, .un, .un, .un, .un, .un, .un, .un, .un, .un, .un, .un, .un, .un, .un, .un, .un, .un, .un, .un, .un, .un, .un, .un, .un, .un, .un, .un, .un, .un, .un, .un, .un, .un, .un, .un, .un, .un, .un, .un, .un, .un, .un, .un, .un, .un, .un, .un, .un, .un, .un, .un, .un, .un, .un, .un, .un, .un, .un, .un, .un, .un, .un, .un, .un, .un, .un, .un, .un, .un, .un, .un, .un, .un, .un, .un, .un, .un, .un, .un, .un, .un, .un, .un, .un, .un, .un, .un, .un, .un, .un, .un, .un, .un, .un], []⟩⟩, ⟨(.ex 2), ⟨[(0, none), (2, none), (3, none), (4, none), (5, none), (15, none), (16, none), (17, none)]⟩, ⟨[.v I64, .un, .v (.list .bool), .v (.list .bool), .v I64, .v I64, .un, .un, .un, .un, .un, .un, .un, .un, .un, .v (.obj 0), .v (.obj 0), .row 0, .un, .un, .un, .un, .un, .un, .un, .un, .un, .un, .un, .un, .un, .un, .un, .un, .un, .un, .un, .un, .un, .un, .un, .un, .un, .un, .un, .un, .un, .un, .un, .un, .un, .un, .un, .un, .un, .un, .un, .un, .un, .un, .un, .un, .un, .un, .un, .un, .un, .un, .un, .un, .un, .un, .un, .un, .un, .un, .un, .un, .un, .un, .un, .un, .un, .un, .un, .un, .un, .un, .un, .un, .un, .un, .un, .un, .un, .un, .un, .un, .un, .un, .un, .un, .un, .un, .un, .un, .un, .un, .un, .un, .un, .un, .un, .un, .un, .un, .un, .un, .un, .un, .un, .un, .un, .un, .un, .un, .un, .un, .un, .un, .un, .un, .un, .un, .un, .un, .un, .un, .un, .un, .un, .un, .un, .un, .un, .un, .un, .un, .un, .un, .un, .un, .un, .un, .un, .un, .un, .un, .un, .un, .un, .un, .un, .un, .un, .un, .un, .un, .un, .un, .un, .un, .un, .un, .un, .un, .un, .un, .un, .un, .un, .un, .un, .un, .un, .un, .un, .un, .un, .un, .un, .un, .un, .un, .un, .un, .un, .un, .un, .un, .un, .un, .un, .un, .un, .un, .un, .un, .un, .un, .un, .un, .un, .un, .un, .un, .un, .un, .un, .un, .un, .un, .un, .un, .un, .un, .un, .un, .un, .un], [.row (4 : Go.TypeId) .bool]⟩⟩]
abbrev V18 : Type := (Int × (List Bool) × (List Bool) × Int × Int × (Option Gr) × (Option Gr) × (List (Int × Int)) × Int × Unit) × ((List Bool) × Unit)
abbrev X18 : Type := ((Bool × Unit) × (Unit)) ⊕ ((Int × (List Bool) × (List Bool) × Int × Int × (Option Gr) × (Option Gr) × Unit) × ((List Bool) × Unit))
noncomputable def R18 {R : Type} (n0 : Int) (a2 : (List Bool)) (b3 : (List Bool)) (u4 : Int) (v5 : Int) (g15 : (Option Gr)) (x16 : (Option Gr)) (l19 : (List (Int × Int))) (i20 : Int) (r0 : List Bool) (k : V18 → Option R) (kx : X18 → Option R) : Option R := (if Decidable.decide (i20 < (↑(List.length l19) : Int)) = Bool.true then (if (0 : Int) ≤ i20 then (if i20 < (↑(List.length l19) : Int) then (if (0 : Int) ≤ i20 then (if i20 < (↑(List.length l19) : Int) then (if Has.pre g15 (List.getD l19 (Int.toNat i20) ((0 : Int), (0 : Int))).1 (List.getD l19 (Int.toNat i20) ((0 : Int), (0 : Int))).2 = Bool.true then (if (!(Has.fn g15 (List.getD l19 (Int.toNat i20) ((0 : Int), (0 : Int))).1 (List.getD l19 (Int.toNat i20) ((0 : Int), (0 : Int))).2).1) = Bool.false then (if (0 : Int) ≤ i20 then (if i20 < (↑(List.length l19) : Int) then (if Decidable.decide ((List.getD l19 (Int.toNat i20) ((0 : Int), (0 : Int))).2 ≥ (↑(List.length a2) : Int)) = Bool.false then (if (0 : Int) ≤ i20 then (if i20 < (↑(List.length l19) : Int) then (if (0 : Int) ≤ (List.getD l19 (Int.toNat i20) ((0 : Int), (0 : Int))).1 then (if (List.getD l19 (Int.toNat i20) ((0 : Int), (0 : Int))).1 < (↑(List.length a2) : Int) then (if (!List.getD a2 (Int.toNat (List.getD l19 (Int.toNat i20) ((0 : Int), (0 : Int))).1) Bool.false) = Bool.false then (if (0 : Int) ≤ i20 then (if i20 < (↑(List.length l19) : Int) then (if (0 : Int) ≤ (List.getD l19 (Int.toNat i20) ((0 : Int), (0 : Int))).2 then (if (List.getD l19 (Int.toNat i20) ((0 : Int), (0 : Int))).2 < (↑(List.length a2) : Int) then (if (!List.getD a2 (Int.toNat (List.getD l19 (Int.toNat i20) ((0 : Int), (0 : Int))).2) Bool.false) = Bool.true then kx (Sum.inl <| ((Bool.false, ()), (())))
 else k ((n0, a2, b3, u4, v5, g15, x16, l19, IntKind.wrap .i64 (i20 + (1 : Int)), ()), (r0, ())))
 else none)
 else none)
 else none)
 else none)
 else kx (Sum.inl <| ((Bool.false, ()), (()))))
 else none)
 else none)
 else none)
 else none)
 else kx (Sum.inl <| ((Bool.false, ()), (()))))
 else none)
 else none)
 else kx (Sum.inl <| ((Bool.false, ()), (()))))
 else none)
 else none)
 else none)
 else none)
 else none)
 else kx (Sum.inr <| ((n0, a2, b3, u4, v5, g15, x16, ()), (r0, ()))))
noncomputable def rd18 : Rd (VO s18) (Xs x18) := fun v k kx => match v with
  | ((n0, a2, b3, u4, v5, g15, x16, l19, i20, _), (r0, _)) => R18 n0 a2 b3 u4 v5 g15 x16 l19 i20 r0 k kx
noncomputable def F18 (n0 : Int) (a2 : (List Bool)) (b3 : (List Bool)) (u4 : Int) (v5 : Int) (g15 : (Option Gr)) (x16 : (Option Gr)) (l19 : (List (Int × Int))) (i20 : Int) (r0 : List Bool) : Option X18 := finOf rd18 ((n0, a2, b3, u4, v5, g15, x16, l19, i20, ()), (r0, ()))
theorem F18_inv {n0 : Int} {a2 : (List Bool)} {b3 : (List Bool)} {u4 : Int} {v5 : Int} {g15 : (Option Gr)} {x16 : (Option Gr)} {l19 : (List (Int × Int))} {r0 : List Bool} (I : Int → Prop) (μ : Int → Nat) (Q : X18 → Prop) (h : ∀ (i20 : Int), I i20 → Led (fun (R : Type) (k : V18 → Option R) (kx : X18 → Option R) => R18 n0 a2 b3 u4 v5 g15 x16 l19 i20 r0 k kx) (fun v => ∃ (i20' : Int), v = ((n0, a2, b3, u4, v5, g15, x16, l19, i20', ()), (r0, ())) ∧ I i20' ∧ μ i20' < μ i20) Q) : ∀ (i20 : Int), I i20 → ∃ z, F18 n0 a2 b3 u4 v5 g15 x16 l19 i20 r0 = some z ∧ Q z := fun i20 hi => by
  refine finOf_inv (V := V18) (X := X18) (rd := rd18) (fun v => ∃ (i20' : Int), v = ((n0, a2, b3, u4, v5, g15, x16, l19, i20', ()), (r0, ())) ∧ I i20') (fun v => match v with
    | ((n0, a2, b3, u4, v5, g15, x16, l19, i20, _), (r0, _)) => μ i20) Q (fun v hv => ?_) ((n0, a2, b3, u4, v5, g15, x16, l19, i20, ()), (r0, ())) ⟨i20, rfl, hi⟩
  obtain ⟨i20, rfl, hi⟩ := hv
  refine led_mono (h i20 hi) ?_ (fun _ q => q)
  rintro v ⟨i20', rfl, h1, h2⟩
  exact ⟨⟨i20', rfl, h1⟩, h2⟩
noncomputable def L18 : Lp := ⟨18, ⟨[(0, none), (2, none), (3, none), (4, none), (5, none), (15, none), (16, none), (17, none), (19, none), (20, none)]⟩, s18, x18, fun v => match v with
  | ((n0, a2, b3, u4, v5, g15, x16, l19, i20, _), (r0, _)) => F18 n0 a2 b3 u4 v5 g15 x16 l19 i20 r0⟩
theorem ends18 : Ends L18 rd18 := ends_fin (fun v => by
  obtain ⟨⟨n0, a2, b3, u4, v5, g15, x16, l19, i20, _⟩, ⟨r0, _⟩⟩ := v
  rfl)
noncomputable def env : Env := mkEnv tab [(31, first5.sig), (32, fine.sig), (33, graphOf.sig), (35, Pairs.sig), (36, alike.sig), (40, Induced.sig), (41, Has.sig), (42, both.sig), (43, Changed.sig)] 0 [(20, [0, 1, 2, 3, 4, 5, 6, 7, 8, 9, 10, 11, 12])] [L13, L18]
theorem round13 : RoundIs env (sub [true, true, true, true, true, true, true, true, true, false, true, false, false] code) L13 rd13 := fun R v k kx => by kernel_rfl
theorem round18 : RoundIs env (sub [true, true, true, true, true, true, true, true, true, true, true, false, true, false, false] code) L18 rd18 := fun R v k kx => by kernel_rfl
abbrev D : Type := (Bool × Unit)
noncomputable def run' (n0 : Int) (pairs1 : (List (Int × Int))) (a2 : (List Bool)) (b3 : (List Bool)) (u4 : Int) (v5 : Int) : Option D := (if first5.pre = Bool.true then (if fine.pre n0 pairs1 = Bool.true then (if (!first5.fn.1) = Bool.false then (if (!(fine.fn n0 pairs1).1) = Bool.false then (if Decidable.decide ((↑(List.length a2) : Int) > (20000 : Int)) = Bool.false then (if Decidable.decide ((↑(List.length b3) : Int) > (20000 : Int)) = Bool.true then some (first5.fn.1, ())
 else (if graphOf.pre n0 pairs1 = Bool.true then (if Option.isNone (graphOf.fn n0 pairs1).1 = Bool.true then some (Bool.false, ())
 else (if Induced.pre (graphOf.fn n0 pairs1).1 a2 = Bool.true then (if Option.isNone (Induced.fn (graphOf.fn n0 pairs1).1 a2).1 = Bool.true then some (Bool.false, ())
 else (if n0 = n0 then (if (0 : Int) ≤ n0 then (if Int.toNat n0 * (1 : Nat) ≤ (140737488355328 : Nat) then (match F13 (n0) (a2) (b3) (u4) (v5) ((graphOf.fn n0 pairs1).1) ((Induced.fn (graphOf.fn n0 pairs1).1 a2).1) ((0 : Int)) (List.replicate (Int.toNat n0) Bool.false) with
  | some (((n0_1, a2_1, b3_1, u4_1, v5_1, g15_1, x16_1, _), (r0_1, _))) => (if Pairs.pre x16_1 = Bool.true then (match F18 (n0_1) (a2_1) (b3_1) (u4_1) (v5_1) (g15_1) (x16_1) ((Pairs.fn x16_1).1) ((0 : Int)) (r0_1) with
  | some (Sum.inl <| ((t12_2, _), _)) => some (t12_2, ())
  | some (Sum.inr <| ((n0_3, a2_3, b3_3, u4_3, v5_3, g15_3, x16_3, _), (r0_3, _))) => (if Induced.pre x16_3 b3_3 = Bool.true then (if both.pre a2_3 b3_3 = Bool.true then (if Induced.pre g15_3 (both.fn a2_3 b3_3).1 = Bool.true then (if alike.pre (Induced.fn x16_3 b3_3).1 (Induced.fn g15_3 (both.fn a2_3 b3_3).1).1 = Bool.true then (if Induced.pre g15_3 r0_3 = Bool.true then (if alike.pre (Induced.fn g15_3 r0_3).1 g15_3 = Bool.true then (if (!(alike.fn (Induced.fn x16_3 b3_3).1 (Induced.fn g15_3 (both.fn a2_3 b3_3).1).1).1) = Bool.false then (if (!(alike.fn (Induced.fn g15_3 r0_3).1 g15_3).1) = Bool.false then (if (n0_3 == (0 : Int)) = Bool.true then (if (alike.fn (Induced.fn x16_3 b3_3).1 (Induced.fn g15_3 (both.fn a2_3 b3_3).1).1).1 = Bool.true then some ((alike.fn (Induced.fn g15_3 r0_3).1 g15_3).1, ())
 else some (Bool.false, ()))
 else (if n0_3 = (0 : Int) then none
 else (if n0_3 = (0 : Int) then none
 else (if n0_3 = (0 : Int) then none
 else (if n0_3 = (0 : Int) then none
 else (if Has.pre g15_3 (Int.tmod (IntKind.wrap .i64 (Int.tmod u4_3 n0_3 + n0_3)) n0_3) (Int.tmod (IntKind.wrap .i64 (Int.tmod v5_3 n0_3 + n0_3)) n0_3) = Bool.true then (if Changed.pre g15_3 [] = Bool.true then (if Changed.pre g15_3 [(Int.tmod (IntKind.wrap .i64 (Int.tmod u4_3 n0_3 + n0_3)) n0_3, Int.tmod (IntKind.wrap .i64 (Int.tmod v5_3 n0_3 + n0_3)) n0_3, (Has.fn g15_3 (Int.tmod (IntKind.wrap .i64 (Int.tmod u4_3 n0_3 + n0_3)) n0_3) (Int.tmod (IntKind.wrap .i64 (Int.tmod v5_3 n0_3 + n0_3)) n0_3)).1), (Int.tmod (IntKind.wrap .i64 (Int.tmod v5_3 n0_3 + n0_3)) n0_3, Int.tmod (IntKind.wrap .i64 (Int.tmod u4_3 n0_3 + n0_3)) n0_3, !(Has.fn g15_3 (Int.tmod (IntKind.wrap .i64 (Int.tmod u4_3 n0_3 + n0_3)) n0_3) (Int.tmod (IntKind.wrap .i64 (Int.tmod v5_3 n0_3 + n0_3)) n0_3)).1)] = Bool.true then (if Changed.pre g15_3 [(Int.tmod (IntKind.wrap .i64 (Int.tmod u4_3 n0_3 + n0_3)) n0_3, Int.tmod (IntKind.wrap .i64 (Int.tmod v5_3 n0_3 + n0_3)) n0_3, !(Has.fn g15_3 (Int.tmod (IntKind.wrap .i64 (Int.tmod u4_3 n0_3 + n0_3)) n0_3) (Int.tmod (IntKind.wrap .i64 (Int.tmod v5_3 n0_3 + n0_3)) n0_3)).1), (Int.tmod (IntKind.wrap .i64 (Int.tmod u4_3 n0_3 + n0_3)) n0_3, Int.tmod (IntKind.wrap .i64 (Int.tmod u4_3 n0_3 + n0_3)) n0_3, Bool.false)] = Bool.true then (if alike.pre (Changed.fn g15_3 []).1 g15_3 = Bool.true then (if alike.pre (Changed.fn g15_3 [(Int.tmod (IntKind.wrap .i64 (Int.tmod u4_3 n0_3 + n0_3)) n0_3, Int.tmod (IntKind.wrap .i64 (Int.tmod v5_3 n0_3 + n0_3)) n0_3, (Has.fn g15_3 (Int.tmod (IntKind.wrap .i64 (Int.tmod u4_3 n0_3 + n0_3)) n0_3) (Int.tmod (IntKind.wrap .i64 (Int.tmod v5_3 n0_3 + n0_3)) n0_3)).1), (Int.tmod (IntKind.wrap .i64 (Int.tmod v5_3 n0_3 + n0_3)) n0_3, Int.tmod (IntKind.wrap .i64 (Int.tmod u4_3 n0_3 + n0_3)) n0_3, !(Has.fn g15_3 (Int.tmod (IntKind.wrap .i64 (Int.tmod u4_3 n0_3 + n0_3)) n0_3) (Int.tmod (IntKind.wrap .i64 (Int.tmod v5_3 n0_3 + n0_3)) n0_3)).1)]).1 g15_3 = Bool.true then (if alike.pre (Changed.fn g15_3 [(Int.tmod (IntKind.wrap .i64 (Int.tmod u4_3 n0_3 + n0_3)) n0_3, Int.tmod (IntKind.wrap .i64 (Int.tmod v5_3 n0_3 + n0_3)) n0_3, !(Has.fn g15_3 (Int.tmod (IntKind.wrap .i64 (Int.tmod u4_3 n0_3 + n0_3)) n0_3) (Int.tmod (IntKind.wrap .i64 (Int.tmod v5_3 n0_3 + n0_3)) n0_3)).1), (Int.tmod (IntKind.wrap .i64 (Int.tmod u4_3 n0_3 + n0_3)) n0_3, Int.tmod (IntKind.wrap .i64 (Int.tmod u4_3 n0_3 + n0_3)) n0_3, Bool.false)]).1 g15_3 = Bool.true then (if (alike.fn (Changed.fn g15_3 []).1 g15_3).1 = Bool.true then (if (alike.fn (Changed.fn g15_3 [(Int.tmod (IntKind.wrap .i64 (Int.tmod u4_3 n0_3 + n0_3)) n0_3, Int.tmod (IntKind.wrap .i64 (Int.tmod v5_3 n0_3 + n0_3)) n0_3, (Has.fn g15_3 (Int.tmod (IntKind.wrap .i64 (Int.tmod u4_3 n0_3 + n0_3)) n0_3) (Int.tmod (IntKind.wrap .i64 (Int.tmod v5_3 n0_3 + n0_3)) n0_3)).1), (Int.tmod (IntKind.wrap .i64 (Int.tmod v5_3 n0_3 + n0_3)) n0_3, Int.tmod (IntKind.wrap .i64 (Int.tmod u4_3 n0_3 + n0_3)) n0_3, !(Has.fn g15_3 (Int.tmod (IntKind.wrap .i64 (Int.tmod u4_3 n0_3 + n0_3)) n0_3) (Int.tmod (IntKind.wrap .i64 (Int.tmod v5_3 n0_3 + n0_3)) n0_3)).1)]).1 g15_3).1 = Bool.false then (if (Int.tmod (IntKind.wrap .i64 (Int.tmod u4_3 n0_3 + n0_3)) n0_3 == Int.tmod (IntKind.wrap .i64 (Int.tmod v5_3 n0_3 + n0_3)) n0_3) = Bool.true then some ((alike.fn (Changed.fn g15_3 [(Int.tmod (IntKind.wrap .i64 (Int.tmod u4_3 n0_3 + n0_3)) n0_3, Int.tmod (IntKind.wrap .i64 (Int.tmod v5_3 n0_3 + n0_3)) n0_3, !(Has.fn g15_3 (Int.tmod (IntKind.wrap .i64 (Int.tmod u4_3 n0_3 + n0_3)) n0_3) (Int.tmod (IntKind.wrap .i64 (Int.tmod v5_3 n0_3 + n0_3)) n0_3)).1), (Int.tmod (IntKind.wrap .i64 (Int.tmod u4_3 n0_3 + n0_3)) n0_3, Int.tmod (IntKind.wrap .i64 (Int.tmod u4_3 n0_3 + n0_3)) n0_3, Bool.false)]).1 g15_3).1, ())
 else some (Bool.false, ()))
 else some ((alike.fn (Changed.fn g15_3 [(Int.tmod (IntKind.wrap .i64 (Int.tmod u4_3 n0_3 + n0_3)) n0_3, Int.tmod (IntKind.wrap .i64 (Int.tmod v5_3 n0_3 + n0_3)) n0_3, !(Has.fn g15_3 (Int.tmod (IntKind.wrap .i64 (Int.tmod u4_3 n0_3 + n0_3)) n0_3) (Int.tmod (IntKind.wrap .i64 (Int.tmod v5_3 n0_3 + n0_3)) n0_3)).1), (Int.tmod (IntKind.wrap .i64 (Int.tmod u4_3 n0_3 + n0_3)) n0_3, Int.tmod (IntKind.wrap .i64 (Int.tmod u4_3 n0_3 + n0_3)) n0_3, Bool.false)]).1 g15_3).1, ()))
 else some (Bool.false, ()))
 else none)
 else none)
 else none)
 else none)
 else none)
 else none)
 else none))))))
 else (if (alike.fn (Induced.fn x16_3 b3_3).1 (Induced.fn g15_3 (both.fn a2_3 b3_3).1).1).1 = Bool.true then some ((alike.fn (Induced.fn g15_3 r0_3).1 g15_3).1, ())
 else some (Bool.false, ())))
 else (if (alike.fn (Induced.fn x16_3 b3_3).1 (Induced.fn g15_3 (both.fn a2_3 b3_3).1).1).1 = Bool.true then some ((alike.fn (Induced.fn g15_3 r0_3).1 g15_3).1, ())
 else some (Bool.false, ())))
 else none)
 else none)
 else none)
 else none)
 else none)
 else none)
  | none => none)
 else none)
  | none => none)
 else none)
 else none)
 else none))
 else none))
 else none))
 else some (first5.fn.1, ()))
 else some (first5.fn.1, ()))
 else some (first5.fn.1, ()))
 else none)
 else none)
noncomputable def run (d : Ds (List.map PM.ty ps)) : Option (Ds (muts ps ++ List.map PM.ty rs)) := match d with
  | (n0, pairs1, a2, b3, u4, v5, _) => run' n0 pairs1 a2 b3 u4 v5
theorem run_is : ∀ d, runF env 230 code [12] ps rs d = run d := fun d => by kernel_rfl
theorem loops : LoopsOk env code := loopsOk_of (l := [[true, true, true, true, true, true, true, true, true, false, true, false, false], [true, true, true, true, true, true, true, true, true, true, true, false, true, false, false]]) (by kernel_rfl) (fun p hp => by
  simp only [List.mem_cons, List.not_mem_nil, or_false] at hp
  rcases hp with rfl | rfl
  · exact loopOk_lp (L := L13) (x := sub [true, true, true, true, true, true, true, true, true, false, true, false, false] code) (by kernel_rfl) (by simp [L13]) round13 ends13
  · exact loopOk_lp (L := L18) (x := sub [true, true, true, true, true, true, true, true, true, true, true, false, true, false, false] code) (by kernel_rfl) (by simp [L18]) round18 ends18
  )
noncomputable def pre (n0 : Int) (pairs1 : (List (Int × Int))) (a2 : (List Bool)) (b3 : (List Bool)) (u4 : Int) (v5 : Int) : Bool := (run' n0 pairs1 a2 b3 u4 v5).isSome
noncomputable def fn (n0 : Int) (pairs1 : (List (Int × Int))) (a2 : (List Bool)) (b3 : (List Bool)) (u4 : Int) (v5 : Int) : D := match run' n0 pairs1 a2 b3 u4 v5 with
  | some x => x
  | none => default
noncomputable def sig : Sig := ⟨ps, rs, fun d => match d with
  | (n0, pairs1, a2, b3, u4, v5, _) => pre n0 pairs1 a2 b3 u4 v5, fun d => match d with
  | (n0, pairs1, a2, b3, u4, v5, _) => fn n0 pairs1 a2 b3 u4 v5⟩
theorem run_fn (n0 : Int) (pairs1 : (List (Int × Int))) (a2 : (List Bool)) (b3 : (List Bool)) (u4 : Int) (v5 : Int) (h : pre n0 pairs1 a2 b3 u4 v5 = true) : run' n0 pairs1 a2 b3 u4 v5 = some (fn n0 pairs1 a2 b3 u4 v5) := by
  unfold pre at h
  unfold fn
  cases e : run' n0 pairs1 a2 b3 u4 v5 with
  | some x => rfl
  | none => rw [e] at h; cases h
theorem is_fn (n0 : Int) (pairs1 : (List (Int × Int))) (a2 : (List Bool)) (b3 : (List Bool)) (u4 : Int) (v5 : Int) {x : D} (h : run' n0 pairs1 a2 b3 u4 v5 = some x) : pre n0 pairs1 a2 b3 u4 v5 = true ∧ fn n0 pairs1 a2 b3 u4 v5 = x := by
  unfold pre fn
  rw [h]
  exact ⟨rfl, rfl⟩
theorem sound {ρ : Obs} (hE : EnvOk Go.Proofs.Try.prog ρ env) : Sound Go.Proofs.Try.prog ρ 6 sig := sound_of (fn := Go.Proofs.Try.f6) (c := code) (res := [12]) hE (by kernel_rfl) (by kernel_rfl) (by kernel_rfl) (by kernel_rfl) (by kernel_rfl) loops rfl (show 6 ≤ 230 by decide) (fun d hd => (run_is d).trans (by
  obtain ⟨n0, pairs1, a2, b3, u4, v5, _⟩ := d
  exact run_fn n0 pairs1 a2 b3 u4 v5 hd))
theorem enters : Enters Go.Proofs.Try.prog 6 := enters_of (fn := Go.Proofs.Try.f6) (by kernel_rfl) (by kernel_rfl) (by kernel_rfl)
theorem ok {ρ : Obs} (h : ∀ p ∈ ([(31, first5.sig), (32, fine.sig), (33, graphOf.sig), (35, Pairs.sig), (36, alike.sig), (40, Induced.sig), (41, Has.sig), (42, both.sig), (43, Changed.sig)] : List (FuncId × Sig)), Enters Go.Proofs.Try.prog p.1 ∧ Sound Go.Proofs.Try.prog ρ p.1 p.2) : Enters Go.Proofs.Try.prog 6 ∧ Sound Go.Proofs.Try.prog ρ 6 sig := ⟨enters, sound (envOk_of tabOk h)⟩
theorem okR : Enters Go.Proofs.Try.prog 6 ∧ Sound Go.Proofs.Try.prog rho 6 sig := ok (fun p hp => by
  simp only [List.mem_cons, List.not_mem_nil, or_false] at hp
  rcases hp with rfl | rfl | rfl | rfl | rfl | rfl | rfl | rfl | rfl
  · exact first5.okR
  · exact fine.okR
  · exact graphOf.okR
  · exact Pairs.okR
  · exact alike.okR
  · exact Induced.okR
  · exact Has.okR
  · exact both.okR
  · exact Changed.okR)
end GraphWithin
end Go.Proofs.Ythbojpaghbbnnaa.Z
