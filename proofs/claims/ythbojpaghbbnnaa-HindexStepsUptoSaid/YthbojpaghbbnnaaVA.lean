/- What functions compute from plain values: num7, exam7, may, sweepH, SweepH, RunH, CoresH, first7. Printed by a small program of ours (zgen, zg.py); no condition. -/
import Derived.Test.YthbojpaghbbnnaaZN
import Derived.Test.YthbojpaghbbnnaaZT
import Derived.Test.YthbojpaghbbnnaaZP
import Derived.Test.YthbojpaghbbnnaaZS
import Derived.Test.YthbojpaghbbnnaaVH
import Derived.KernelRfl
namespace Go.Proofs.Ythbojpaghbbnnaa.Z
open Go Go.RowKit
set_option linter.unusedVariables false
set_option linter.unusedSimpArgs false
/-! pith/pithlaw7.num -/
namespace num7
abbrev ps : List PM := [.val I64]
abbrev rs : List PM := [.val I64]
noncomputable abbrev code : Code := (Go.Proofs.Try.f74.body.getD .skip)
noncomputable def env : Env := mkEnv tab [] 0 [] []
abbrev D : Type := (Int × Unit)
noncomputable def run' (e0 : Int) : Option D := some (e0, ())
noncomputable def run (d : Ds (List.map PM.ty ps)) : Option (Ds (muts ps ++ List.map PM.ty rs)) := match d with
  | (e0, _) => run' e0
theorem run_is : ∀ d, runF env 4 code [2] ps rs d = run d := fun d => by kernel_rfl
theorem loops : LoopsOk env code := loopsOk_of (l := []) (by kernel_rfl) (fun p hp => by
  cases hp)
noncomputable def pre (e0 : Int) : Bool := (run' e0).isSome
noncomputable def fn (e0 : Int) : D := match run' e0 with
  | some x => x
  | none => default
noncomputable def sig : Sig := ⟨ps, rs, fun d => match d with
  | (e0, _) => pre e0, fun d => match d with
  | (e0, _) => fn e0⟩
theorem run_fn (e0 : Int) (h : pre e0 = true) : run' e0 = some (fn e0) := by
  unfold pre at h
  unfold fn
  cases e : run' e0 with
  | some x => rfl
  | none => rw [e] at h; cases h
theorem is_fn (e0 : Int) {x : D} (h : run' e0 = some x) : pre e0 = true ∧ fn e0 = x := by
  unfold pre fn
  rw [h]
  exact ⟨rfl, rfl⟩
theorem sound {ρ : Obs} (hE : EnvOk Go.Proofs.Try.prog ρ env) : Sound Go.Proofs.Try.prog ρ 74 sig := sound_of (fn := Go.Proofs.Try.f74) (c := code) (res := [2]) hE (by kernel_rfl) (by kernel_rfl) (by kernel_rfl) (by kernel_rfl) (by kernel_rfl) loops rfl (show 1 ≤ 4 by decide) (fun d hd => (run_is d).trans (by
  obtain ⟨e0, _⟩ := d
  exact run_fn e0 hd))
theorem enters : Enters Go.Proofs.Try.prog 74 := enters_of (fn := Go.Proofs.Try.f74) (by kernel_rfl) (by kernel_rfl) (by kernel_rfl)
theorem ok {ρ : Obs} (h : ∀ p ∈ ([] : List (FuncId × Sig)), Enters Go.Proofs.Try.prog p.1 ∧ Sound Go.Proofs.Try.prog ρ p.1 p.2) : Enters Go.Proofs.Try.prog 74 ∧ Sound Go.Proofs.Try.prog ρ 74 sig := ⟨enters, sound (envOk_of tabOk h)⟩
theorem okR : Enters Go.Proofs.Try.prog 74 ∧ Sound Go.Proofs.Try.prog rho 74 sig := ok (fun p hp => by
  cases hp)
end num7
/-! pith/pithlaw7.example -/
namespace exam7
abbrev ps : List PM := []
abbrev rs : List PM := [.val (.list Pr)]
noncomputable abbrev code : Code := (Go.Proofs.Try.f126.body.getD .skip)
noncomputable def env : Env := mkEnv tab [] 0 [] []
abbrev D : Type := ((List (Int × Int)) × Unit)
noncomputable def run' : Option D := some ([((0 : Int), (1 : Int)), ((0 : Int), (2 : Int)), ((1 : Int), (2 : Int)), ((2 : Int), (3 : Int)), ((3 : Int), (4 : Int))], ())
noncomputable def run (d : Ds (List.map PM.ty ps)) : Option (Ds (muts ps ++ List.map PM.ty rs)) := match d with
  | _ => run'
theorem run_is : ∀ d, runF env 7 code [0] ps rs d = run d := fun d => by kernel_rfl
theorem loops : LoopsOk env code := loopsOk_of (l := []) (by kernel_rfl) (fun p hp => by
  cases hp)
noncomputable def pre : Bool := (run').isSome
noncomputable def fn : D := match run' with
  | some x => x
  | none => default
noncomputable def sig : Sig := ⟨ps, rs, fun d => match d with
  | _ => pre, fun d => match d with
  | _ => fn⟩
theorem run_fn (h : pre = true) : run' = some (fn) := by
  unfold pre at h
  unfold fn
  cases e : run' with
  | some x => rfl
  | none => rw [e] at h; cases h
theorem is_fn {x : D} (h : run' = some x) : pre = true ∧ fn = x := by
  unfold pre fn
  rw [h]
  exact ⟨rfl, rfl⟩
theorem sound {ρ : Obs} (hE : EnvOk Go.Proofs.Try.prog ρ env) : Sound Go.Proofs.Try.prog ρ 126 sig := sound_of (fn := Go.Proofs.Try.f126) (c := code) (res := [0]) hE (by kernel_rfl) (by kernel_rfl) (by kernel_rfl) (by kernel_rfl) (by kernel_rfl) loops rfl (show 0 ≤ 7 by decide) (fun d hd => (run_is d).trans (by
  exact run_fn hd))
theorem enters : Enters Go.Proofs.Try.prog 126 := enters_of (fn := Go.Proofs.Try.f126) (by kernel_rfl) (by kernel_rfl) (by kernel_rfl)
theorem ok {ρ : Obs} (h : ∀ p ∈ ([] : List (FuncId × Sig)), Enters Go.Proofs.Try.prog p.1 ∧ Sound Go.Proofs.Try.prog ρ p.1 p.2) : Enters Go.Proofs.Try.prog 126 ∧ Sound Go.Proofs.Try.prog ρ 126 sig := ⟨enters, sound (envOk_of tabOk h)⟩
theorem okR : Enters Go.Proofs.Try.prog 126 ∧ Sound Go.Proofs.Try.prog rho 126 sig := ok (fun p hp => by
  cases hp)
end exam7
/-! pith/hindex.may -/
namespace may
abbrev ps : List PM := [.val (.obj 0), .val (.list I64)]
abbrev rs : List PM := [.val .bool]
noncomputable abbrev code : Code := (Go.Proofs.Try.f129.body.getD .skip)
abbrev s4 : Shape := ⟨[.un, .un, .un, .un, .un, .un, .un, .un, .un, .un, .un, .un, .v (.list I64), .v I64, .v I64, .un, .un, .un, .un, .un, .un], []⟩
abbrev x4 : List Way := [⟨.rt, ⟨[(4, none)]⟩, ⟨[.un, .un, .un, .un, .v .bool, .un, .un, .un, .un, .un, .un, .un, .un, .un, .un, .un, .un, .un, .un, .un, .un], []⟩⟩, ⟨(.ex 0), ⟨[]⟩, ⟨[.un, .un, .un, .un, .un, .un, .un, .un, .un, .un, .un, .un, .un, .un, .un, .un, .un, .un, .un, .un, .un], []⟩⟩]
abbrev V4 : Type := ((List Int) × Int × Int × Unit) × (Unit)
abbrev X4 : Type := ((Bool × Unit) × (Unit)) ⊕ ((Unit) × (Unit))
noncomputable def R4 {R : Type} (t12 : (List Int)) (t13 : Int) (t14 : Int) (k : V4 → Option R) (kx : X4 → Option R) : Option R := (if Decidable.decide (t14 < t13) = Bool.true then (if (0 : Int) ≤ t14 then (if t14 < (↑(List.length t12) : Int) then (if Decidable.decide (List.getD t12 (Int.toNat t14) (0 : Int) < (0 : Int)) = Bool.true then kx (Sum.inl <| ((Bool.false, ()), (())))
 else k ((t12, t13, IntKind.wrap .i64 (t14 + (1 : Int)), ()), (())))
 else none)
 else none)
 else kx (Sum.inr <| ((()), (()))))
noncomputable def rd4 : Rd (VO s4) (Xs x4) := fun v k kx => match v with
  | ((t12, t13, t14, _), _) => R4 t12 t13 t14 k kx
noncomputable def F4 (t12 : (List Int)) (t13 : Int) (t14 : Int) : Option X4 := finOf rd4 ((t12, t13, t14, ()), (()))
theorem F4_inv {t12 : (List Int)} {t13 : Int} (I : Int → Prop) (μ : Int → Nat) (Q : X4 → Prop) (h : ∀ (t14 : Int), I t14 → Led (fun (R : Type) (k : V4 → Option R) (kx : X4 → Option R) => R4 t12 t13 t14 k kx) (fun v => ∃ (t14' : Int), v = ((t12, t13, t14', ()), ()) ∧ I t14' ∧ μ t14' < μ t14) Q) : ∀ (t14 : Int), I t14 → ∃ z, F4 t12 t13 t14 = some z ∧ Q z := fun t14 hi => by
  refine finOf_inv (V := V4) (X := X4) (rd := rd4) (fun v => ∃ (t14' : Int), v = ((t12, t13, t14', ()), ()) ∧ I t14') (fun v => match v with
    | ((t12, t13, t14, _), _) => μ t14) Q (fun v hv => ?_) ((t12, t13, t14, ()), ()) ⟨t14, rfl, hi⟩
  obtain ⟨t14, rfl, hi⟩ := hv
  refine led_mono (h t14 hi) ?_ (fun _ q => q)
  rintro v ⟨t14', rfl, h1, h2⟩
  exact ⟨⟨t14', rfl, h1⟩, h2⟩
noncomputable def L4 : Lp := ⟨4, ⟨[(12, none), (13, none), (14, none)]⟩, s4, x4, fun v => match v with
  | ((t12, t13, t14, _), _) => F4 t12 t13 t14⟩
theorem ends4 : Ends L4 rd4 := ends_fin (fun v => by
  obtain ⟨⟨t12, t13, t14, _⟩, ⟨_⟩⟩ := v
  rfl)
noncomputable def env : Env := mkEnv tab [(93, N.sig)] 0 [] [L4]
theorem round4 : RoundIs env (sub [true, true, false, true, false, false] code) L4 rd4 := fun R v k kx => by kernel_rfl
abbrev D : Type := (Bool × Unit)
noncomputable def run' (g0 : (Option Gr)) (est1 : (List Int)) : Option D := (if N.pre g0 = Bool.true then (if ((↑(List.length est1) : Int) != (N.fn g0).1) = Bool.true then some (Bool.false, ())
 else (match F4 (est1) ((↑(List.length est1) : Int)) ((0 : Int)) with
  | some (Sum.inl <| ((t4_1, _), _)) => some (t4_1, ())
  | some (Sum.inr <| (_, _)) => some (Bool.true, ())
  | none => none))
 else none)
noncomputable def run (d : Ds (List.map PM.ty ps)) : Option (Ds (muts ps ++ List.map PM.ty rs)) := match d with
  | (g0, est1, _) => run' g0 est1
theorem run_is : ∀ d, runF env 21 code [4] ps rs d = run d := fun d => by kernel_rfl
theorem loops : LoopsOk env code := loopsOk_of (l := [[true, true, false, true, false, false]]) (by kernel_rfl) (fun p hp => by
  simp only [List.mem_cons, List.not_mem_nil, or_false] at hp
  rcases hp with rfl
  · exact loopOk_lp (L := L4) (x := sub [true, true, false, true, false, false] code) (by kernel_rfl) (by simp [L4]) round4 ends4
  )
noncomputable def pre (g0 : (Option Gr)) (est1 : (List Int)) : Bool := (run' g0 est1).isSome
noncomputable def fn (g0 : (Option Gr)) (est1 : (List Int)) : D := match run' g0 est1 with
  | some x => x
  | none => default
noncomputable def sig : Sig := ⟨ps, rs, fun d => match d with
  | (g0, est1, _) => pre g0 est1, fun d => match d with
  | (g0, est1, _) => fn g0 est1⟩
theorem run_fn (g0 : (Option Gr)) (est1 : (List Int)) (h : pre g0 est1 = true) : run' g0 est1 = some (fn g0 est1) := by
  unfold pre at h
  unfold fn
  cases e : run' g0 est1 with
  | some x => rfl
  | none => rw [e] at h; cases h
theorem is_fn (g0 : (Option Gr)) (est1 : (List Int)) {x : D} (h : run' g0 est1 = some x) : pre g0 est1 = true ∧ fn g0 est1 = x := by
  unfold pre fn
  rw [h]
  exact ⟨rfl, rfl⟩
theorem sound {ρ : Obs} (hE : EnvOk Go.Proofs.Try.prog ρ env) : Sound Go.Proofs.Try.prog ρ 129 sig := sound_of (fn := Go.Proofs.Try.f129) (c := code) (res := [4]) hE (by kernel_rfl) (by kernel_rfl) (by kernel_rfl) (by kernel_rfl) (by kernel_rfl) loops rfl (show 2 ≤ 21 by decide) (fun d hd => (run_is d).trans (by
  obtain ⟨g0, est1, _⟩ := d
  exact run_fn g0 est1 hd))
theorem enters : Enters Go.Proofs.Try.prog 129 := enters_of (fn := Go.Proofs.Try.f129) (by kernel_rfl) (by kernel_rfl) (by kernel_rfl)
theorem ok {ρ : Obs} (h : ∀ p ∈ ([(93, N.sig)] : List (FuncId × Sig)), Enters Go.Proofs.Try.prog p.1 ∧ Sound Go.Proofs.Try.prog ρ p.1 p.2) : Enters Go.Proofs.Try.prog 129 ∧ Sound Go.Proofs.Try.prog ρ 129 sig := ⟨enters, sound (envOk_of tabOk h)⟩
theorem okR : Enters Go.Proofs.Try.prog 129 ∧ Sound Go.Proofs.Try.prog rho 129 sig := ok (fun p hp => by
  simp only [List.mem_cons, List.not_mem_nil, or_false] at hp
  rcases hp with rfl
  · exact N.okR)
end may
/-! pith/hindex.sweep -/
namespace sweepH
abbrev ps : List PM := [.val (.obj 0), .own 3 I64]
abbrev rs : List PM := [.val I64, .val .bool]
noncomputable abbrev code : Code := (Go.Proofs.Try.f130.body.getD .skip)
abbrev s8 : Shape := ⟨[.v (.obj 0), .row 0, .un, .un, .un, .un, .v I64, .v .bool, .v I64, .v I64, .v (.list I64), .row 1, .un, .un, .un, .un, .un, .row 0, .v I64, .v I64, .un, .un, .un, .un, .un, .un, .un, .v (.list I64), .v I64, .v I64, .un, .un, .un, .un, .un, .un, .un, .un, .un, .un, .un, .un, .un, .un, .un, .un, .un, .un, .un, .un, .un, .un, .un, .un, .un, .un, .un, .un, .un, .un, .un, .un, .un, .un, .un, .un, .un, .un, .un, .un, .un, .un, .un, .un, .un, .un, .un, .un, .un, .un, .un, .un, .un, .un, .un], [.row (3 : Go.TypeId) I64, .row (3 : Go.TypeId) I64]⟩
abbrev x8 : List Way := [⟨(.ex 2), ⟨[(0, none), (1, none), (6, none), (7, none), (8, none), (9, none), (10, none), (11, some (.inl ((3 : Go.TypeId), I64))), (17, none), (18, none), (19, none)]⟩, ⟨[.v (.obj 0), .row 0, .un, .un, .un, .un, .v I64, .v .bool, .v I64, .v I64, .v (.list I64), .row 1, .un, .un, .un, .un, .un, .row 0, .v I64, .v I64, .un, .un, .un, .un, .un, .un, .un, .un, .un, .un, .un, .un, .un, .un, .un, .un, .un, .un, .un, .un, .un, .un, .un, .un, .un, .un, .un, .un, .un, .un, .un, .un, .un, .un, .un, .un, .un, .un, .un, .un, .un, .un, .un, .un, .un, .un, .un, .un, .un, .un, .un, .un, .un, .un, .un, .un, .un, .un, .un, .un, .un, .un, .un, .un, .un], [.row (3 : Go.TypeId) I64, .row (3 : Go.TypeId) I64]⟩⟩]
abbrev V8 : Type := ((Option Gr) × Int × Bool × Int × Int × (List Int) × Int × Int × (List Int) × Int × Int × Unit) × ((List Int) × (List Int) × Unit)
abbrev X8 : Type := ((Option Gr) × Int × Bool × Int × Int × (List Int) × Int × Int × Unit) × ((List Int) × (List Int) × Unit)
noncomputable def R8 {R : Type} (g0 : (Option Gr)) (falls6 : Int) (past7 : Bool) (v8 : Int) (old9 : Int) (to10 : (List Int)) (t18 : Int) (t19 : Int) (t27 : (List Int)) (t28 : Int) (t29 : Int) (r0 : List Int) (r1 : List Int) (k : V8 → Option R) (kx : X8 → Option R) : Option R := (if Decidable.decide (t29 < t28) = Bool.true then (if (0 : Int) ≤ t29 then (if t29 < (↑(List.length t27) : Int) then (if (0 : Int) ≤ List.getD t27 (Int.toNat t29) (0 : Int) then (if List.getD t27 (Int.toNat t29) (0 : Int) < (↑(List.length r0) : Int) then (if (List.length r1 + List.length [List.getD r0 (Int.toNat (List.getD t27 (Int.toNat t29) (0 : Int))) (0 : Int)]) * (8 : Nat) ≤ (140737488355328 : Nat) then k ((g0, falls6, past7, v8, old9, to10, t18, t19, t27, t28, IntKind.wrap .i64 (t29 + (1 : Int)), ()), (r0, r1 ++ [List.getD r0 (Int.toNat (List.getD t27 (Int.toNat t29) (0 : Int))) (0 : Int)], ()))
 else none)
 else none)
 else none)
 else none)
 else none)
 else kx (((g0, falls6, past7, v8, old9, to10, t18, t19, ()), (r0, r1, ()))))
noncomputable def rd8 : Rd (VO s8) (Xs x8) := fun v k kx => match v with
  | ((g0, falls6, past7, v8, old9, to10, t18, t19, t27, t28, t29, _), (r0, r1, _)) => R8 g0 falls6 past7 v8 old9 to10 t18 t19 t27 t28 t29 r0 r1 k kx
noncomputable def F8 (g0 : (Option Gr)) (falls6 : Int) (past7 : Bool) (v8 : Int) (old9 : Int) (to10 : (List Int)) (t18 : Int) (t19 : Int) (t27 : (List Int)) (t28 : Int) (t29 : Int) (r0 : List Int) (r1 : List Int) : Option X8 := finOf rd8 ((g0, falls6, past7, v8, old9, to10, t18, t19, t27, t28, t29, ()), (r0, r1, ()))
theorem F8_inv {g0 : (Option Gr)} {falls6 : Int} {past7 : Bool} {v8 : Int} {old9 : Int} {to10 : (List Int)} {t18 : Int} {t19 : Int} {t27 : (List Int)} {t28 : Int} {r0 : List Int} (I : Int → List Int → Prop) (μ : Int → List Int → Nat) (Q : X8 → Prop) (h : ∀ (t29 : Int) (r1 : List Int), I t29 r1 → Led (fun (R : Type) (k : V8 → Option R) (kx : X8 → Option R) => R8 g0 falls6 past7 v8 old9 to10 t18 t19 t27 t28 t29 r0 r1 k kx) (fun v => ∃ (t29' : Int) (r1' : List Int), v = ((g0, falls6, past7, v8, old9, to10, t18, t19, t27, t28, t29', ()), (r0, r1', ())) ∧ I t29' r1' ∧ μ t29' r1' < μ t29 r1) Q) : ∀ (t29 : Int) (r1 : List Int), I t29 r1 → ∃ z, F8 g0 falls6 past7 v8 old9 to10 t18 t19 t27 t28 t29 r0 r1 = some z ∧ Q z := fun t29 r1 hi => by
  refine finOf_inv (V := V8) (X := X8) (rd := rd8) (fun v => ∃ (t29' : Int) (r1' : List Int), v = ((g0, falls6, past7, v8, old9, to10, t18, t19, t27, t28, t29', ()), (r0, r1', ())) ∧ I t29' r1') (fun v => match v with
    | ((g0, falls6, past7, v8, old9, to10, t18, t19, t27, t28, t29, _), (r0, r1, _)) => μ t29 r1) Q (fun v hv => ?_) ((g0, falls6, past7, v8, old9, to10, t18, t19, t27, t28, t29, ()), (r0, r1, ())) ⟨t29, r1, rfl, hi⟩
  obtain ⟨t29, r1, rfl, hi⟩ := hv
  refine led_mono (h t29 r1 hi) ?_ (fun _ q => q)
  rintro v ⟨t29', r1', rfl, h1, h2⟩
  exact ⟨⟨t29', r1', rfl, h1⟩, h2⟩
noncomputable def L8 : Lp := ⟨8, ⟨[(0, none), (1, none), (6, none), (7, none), (8, none), (9, none), (10, none), (11, some (.inl ((3 : Go.TypeId), I64))), (17, none), (18, none), (19, none), (27, none), (28, none), (29, none)]⟩, s8, x8, fun v => match v with
  | ((g0, falls6, past7, v8, old9, to10, t18, t19, t27, t28, t29, _), (r0, r1, _)) => F8 g0 falls6 past7 v8 old9 to10 t18 t19 t27 t28 t29 r0 r1⟩
theorem ends8 : Ends L8 rd8 := ends_fin (fun v => by
  obtain ⟨⟨g0, falls6, past7, v8, old9, to10, t18, t19, t27, t28, t29, _⟩, ⟨r0, r1, _⟩⟩ := v
  rfl)
abbrev s17 : Shape := ⟨[.v (.obj 0), .row 0, .un, .un, .un, .un, .v I64, .v .bool, .v I64, .v I64, .un, .un, .un, .un, .v I64, .un, .un, .row 0, .v I64, .v I64, .un, .un, .un, .un, .un, .un, .un, .un, .un, .un, .un, .un, .un, .un, .un, .un, .un, .un, .un, .un, .un, .un, .un, .un, .un, .un, .un, .un, .un, .un, .un, .un, .un, .v (.list I64), .v I64, .v I64, .un, .un, .un, .un, .un, .un, .un, .un, .un, .un, .un, .un, .un, .un, .un, .un, .un, .un, .un, .un, .un, .un, .un, .un, .un, .un, .un, .un, .un], [.row (3 : Go.TypeId) I64]⟩
abbrev x17 : List Way := [⟨(.ex 4), ⟨[(0, none), (1, none), (6, none), (7, none), (17, none), (18, none), (19, none)]⟩, ⟨[.v (.obj 0), .row 0, .un, .un, .un, .un, .v I64, .v .bool, .un, .un, .un, .un, .un, .un, .un, .un, .un, .row 0, .v I64, .v I64, .un, .un, .un, .un, .un, .un, .un, .un, .un, .un, .un, .un, .un, .un, .un, .un, .un, .un, .un, .un, .un, .un, .un, .un, .un, .un, .un, .un, .un, .un, .un, .un, .un, .un, .un, .un, .un, .un, .un, .un, .un, .un, .un, .un, .un, .un, .un, .un, .un, .un, .un, .un, .un, .un, .un, .un, .un, .un, .un, .un, .un, .un, .un, .un, .un], [.row (3 : Go.TypeId) I64]⟩⟩]
abbrev V17 : Type := ((Option Gr) × Int × Bool × Int × Int × Int × Int × Int × (List Int) × Int × Int × Unit) × ((List Int) × Unit)
abbrev X17 : Type := ((Option Gr) × Int × Bool × Int × Int × Unit) × ((List Int) × Unit)
noncomputable def R17 {R : Type} (g0 : (Option Gr)) (falls6 : Int) (past7 : Bool) (v8 : Int) (old9 : Int) (h14 : Int) (t18 : Int) (t19 : Int) (t53 : (List Int)) (t54 : Int) (t55 : Int) (r0 : List Int) (k : V17 → Option R) (kx : X17 → Option R) : Option R := (if Decidable.decide (t55 < t54) = Bool.true then (if (0 : Int) ≤ t55 then (if t55 < (↑(List.length t53) : Int) then (if past7 = Bool.false then (if Decidable.decide (List.getD t53 (Int.toNat t55) (0 : Int) < v8) = Bool.true then (if (0 : Int) ≤ List.getD t53 (Int.toNat t55) (0 : Int) then (if List.getD t53 (Int.toNat t55) (0 : Int) < (↑(List.length r0) : Int) then (if Decidable.decide (List.getD r0 (Int.toNat (List.getD t53 (Int.toNat t55) (0 : Int))) (0 : Int) > h14) = Bool.true then (if (0 : Int) ≤ List.getD t53 (Int.toNat t55) (0 : Int) then (if List.getD t53 (Int.toNat t55) (0 : Int) < (↑(List.length r0) : Int) then k ((g0, falls6, Decidable.decide (List.getD r0 (Int.toNat (List.getD t53 (Int.toNat t55) (0 : Int))) (0 : Int) ≤ old9), v8, old9, h14, t18, t19, t53, t54, IntKind.wrap .i64 (t55 + (1 : Int)), ()), (r0, ()))
 else none)
 else none)
 else k ((g0, falls6, Bool.false, v8, old9, h14, t18, t19, t53, t54, IntKind.wrap .i64 (t55 + (1 : Int)), ()), (r0, ())))
 else none)
 else none)
 else k ((g0, falls6, Bool.false, v8, old9, h14, t18, t19, t53, t54, IntKind.wrap .i64 (t55 + (1 : Int)), ()), (r0, ())))
 else k ((g0, falls6, Bool.true, v8, old9, h14, t18, t19, t53, t54, IntKind.wrap .i64 (t55 + (1 : Int)), ()), (r0, ())))
 else none)
 else none)
 else kx (((g0, falls6, past7, t18, t19, ()), (r0, ()))))
noncomputable def rd17 : Rd (VO s17) (Xs x17) := fun v k kx => match v with
  | ((g0, falls6, past7, v8, old9, h14, t18, t19, t53, t54, t55, _), (r0, _)) => R17 g0 falls6 past7 v8 old9 h14 t18 t19 t53 t54 t55 r0 k kx
noncomputable def F17 (g0 : (Option Gr)) (falls6 : Int) (past7 : Bool) (v8 : Int) (old9 : Int) (h14 : Int) (t18 : Int) (t19 : Int) (t53 : (List Int)) (t54 : Int) (t55 : Int) (r0 : List Int) : Option X17 := finOf rd17 ((g0, falls6, past7, v8, old9, h14, t18, t19, t53, t54, t55, ()), (r0, ()))
theorem F17_inv {g0 : (Option Gr)} {falls6 : Int} {v8 : Int} {old9 : Int} {h14 : Int} {t18 : Int} {t19 : Int} {t53 : (List Int)} {t54 : Int} {r0 : List Int} (I : Bool → Int → Prop) (μ : Bool → Int → Nat) (Q : X17 → Prop) (h : ∀ (past7 : Bool) (t55 : Int), I past7 t55 → Led (fun (R : Type) (k : V17 → Option R) (kx : X17 → Option R) => R17 g0 falls6 past7 v8 old9 h14 t18 t19 t53 t54 t55 r0 k kx) (fun v => ∃ (past7' : Bool) (t55' : Int), v = ((g0, falls6, past7', v8, old9, h14, t18, t19, t53, t54, t55', ()), (r0, ())) ∧ I past7' t55' ∧ μ past7' t55' < μ past7 t55) Q) : ∀ (past7 : Bool) (t55 : Int), I past7 t55 → ∃ z, F17 g0 falls6 past7 v8 old9 h14 t18 t19 t53 t54 t55 r0 = some z ∧ Q z := fun past7 t55 hi => by
  refine finOf_inv (V := V17) (X := X17) (rd := rd17) (fun v => ∃ (past7' : Bool) (t55' : Int), v = ((g0, falls6, past7', v8, old9, h14, t18, t19, t53, t54, t55', ()), (r0, ())) ∧ I past7' t55') (fun v => match v with
    | ((g0, falls6, past7, v8, old9, h14, t18, t19, t53, t54, t55, _), (r0, _)) => μ past7 t55) Q (fun v hv => ?_) ((g0, falls6, past7, v8, old9, h14, t18, t19, t53, t54, t55, ()), (r0, ())) ⟨past7, t55, rfl, hi⟩
  obtain ⟨past7, t55, rfl, hi⟩ := hv
  refine led_mono (h past7 t55 hi) ?_ (fun _ q => q)
  rintro v ⟨past7', t55', rfl, h1, h2⟩
  exact ⟨⟨past7', t55', rfl, h1⟩, h2⟩
noncomputable def L17 : Lp := ⟨17, ⟨[(0, none), (1, none), (6, none), (7, none), (8, none), (9, none), (14, none), (17, none), (18, none), (19, none), (53, none), (54, none), (55, none)]⟩, s17, x17, fun v => match v with
  | ((g0, falls6, past7, v8, old9, h14, t18, t19, t53, t54, t55, _), (r0, _)) => F17 g0 falls6 past7 v8 old9 h14 t18 t19 t53 t54 t55 r0⟩
theorem ends17 : Ends L17 rd17 := ends_fin (fun v => by
  obtain ⟨⟨g0, falls6, past7, v8, old9, h14, t18, t19, t53, t54, t55, _⟩, ⟨r0, _⟩⟩ := v
  rfl)
abbrev s3 : Shape := ⟨[.v (.obj 0), .row 0, .un, .un, .un, .un, .v I64, .v .bool, .un, .un, .un, .un, .un, .un, .un, .un, .un, .row 0, .v I64, .v I64, .un, .un, .un, .un, .un, .un, .un, .un, .un, .un, .un, .un, .un, .un, .un, .un, .un, .un, .un, .un, .un, .un, .un, .un, .un, .un, .un, .un, .un, .un, .un, .un, .un, .un, .un, .un, .un, .un, .un, .un, .un, .un, .un, .un, .un, .un, .un, .un, .un, .un, .un, .un, .un, .un, .un, .un, .un, .un, .un, .un, .un, .un, .un, .un, .un], [.row (3 : Go.TypeId) I64]⟩
abbrev x3 : List Way := [⟨(.ex 0), ⟨[(6, none), (7, none)]⟩, ⟨[.un, .un, .un, .un, .un, .un, .v I64, .v .bool, .un, .un, .un, .un, .un, .un, .un, .un, .un, .un, .un, .un, .un, .un, .un, .un, .un, .un, .un, .un, .un, .un, .un, .un, .un, .un, .un, .un, .un, .un, .un, .un, .un, .un, .un, .un, .un, .un, .un, .un, .un, .un, .un, .un, .un, .un, .un, .un, .un, .un, .un, .un, .un, .un, .un, .un, .un, .un, .un, .un, .un, .un, .un, .un, .un, .un, .un, .un, .un, .un, .un, .un, .un, .un, .un, .un, .un], [.row (3 : Go.TypeId) I64]⟩⟩]
abbrev V3 : Type := ((Option Gr) × Int × Bool × Int × Int × Unit) × ((List Int) × Unit)
abbrev X3 : Type := (Int × Bool × Unit) × ((List Int) × Unit)
noncomputable def R3 {R : Type} (g0 : (Option Gr)) (falls6 : Int) (past7 : Bool) (t18 : Int) (t19 : Int) (r0 : List Int) (k : V3 → Option R) (kx : X3 → Option R) : Option R := (if Decidable.decide (t19 < t18) = Bool.true then (if (0 : Int) ≤ t19 then (if t19 < (↑(List.length r0) : Int) then (if Neighbours.pre g0 t19 = Bool.true then (match F8 (g0) (falls6) (past7) (t19) (List.getD r0 (Int.toNat t19) (0 : Int)) ((Neighbours.fn g0 t19).1) (t18) (t19) ((Neighbours.fn g0 t19).1) ((↑(List.length (Neighbours.fn g0 t19).1) : Int)) ((0 : Int)) (r0) ([]) with
  | some (((g0_1, falls6_1, past7_1, v8_1, old9_1, to10_1, t18_1, t19_1, _), (r0_1, r1_1, _))) => (if HH.pre r1_1 old9_1 = Bool.true then (if ((HH.fn r1_1 old9_1).1 == old9_1) = Bool.true then k ((g0_1, falls6_1, past7_1, t18_1, IntKind.wrap .i64 (t19_1 + (1 : Int)), ()), (r0_1, ()))
 else (if (0 : Int) ≤ v8_1 then (if v8_1 < (↑(List.length r0_1) : Int) then (if Int.toNat v8_1 < List.length r0_1 then (match F17 (g0_1) (IntKind.wrap .i64 (falls6_1 + (1 : Int))) (past7_1) (v8_1) (old9_1) ((HH.fn r1_1 old9_1).1) (t18_1) (t19_1) (to10_1) ((↑(List.length to10_1) : Int)) ((0 : Int)) (List.set r0_1 (Int.toNat v8_1) (HH.fn r1_1 old9_1).1) with
  | some (((g0_2, falls6_2, past7_2, t18_2, t19_2, _), (r0_2, _))) => k ((g0_2, falls6_2, past7_2, t18_2, IntKind.wrap .i64 (t19_2 + (1 : Int)), ()), (r0_2, ()))
  | none => none)
 else none)
 else none)
 else none))
 else none)
  | none => none)
 else none)
 else none)
 else none)
 else kx (((falls6, past7, ()), (r0, ()))))
noncomputable def rd3 : Rd (VO s3) (Xs x3) := fun v k kx => match v with
  | ((g0, falls6, past7, t18, t19, _), (r0, _)) => R3 g0 falls6 past7 t18 t19 r0 k kx
noncomputable def F3 (g0 : (Option Gr)) (falls6 : Int) (past7 : Bool) (t18 : Int) (t19 : Int) (r0 : List Int) : Option X3 := finOf rd3 ((g0, falls6, past7, t18, t19, ()), (r0, ()))
theorem F3_inv {g0 : (Option Gr)} {t18 : Int} (I : Int → Bool → Int → List Int → Prop) (μ : Int → Bool → Int → List Int → Nat) (Q : X3 → Prop) (h : ∀ (falls6 : Int) (past7 : Bool) (t19 : Int) (r0 : List Int), I falls6 past7 t19 r0 → Led (fun (R : Type) (k : V3 → Option R) (kx : X3 → Option R) => R3 g0 falls6 past7 t18 t19 r0 k kx) (fun v => ∃ (falls6' : Int) (past7' : Bool) (t19' : Int) (r0' : List Int), v = ((g0, falls6', past7', t18, t19', ()), (r0', ())) ∧ I falls6' past7' t19' r0' ∧ μ falls6' past7' t19' r0' < μ falls6 past7 t19 r0) Q) : ∀ (falls6 : Int) (past7 : Bool) (t19 : Int) (r0 : List Int), I falls6 past7 t19 r0 → ∃ z, F3 g0 falls6 past7 t18 t19 r0 = some z ∧ Q z := fun falls6 past7 t19 r0 hi => by
  refine finOf_inv (V := V3) (X := X3) (rd := rd3) (fun v => ∃ (falls6' : Int) (past7' : Bool) (t19' : Int) (r0' : List Int), v = ((g0, falls6', past7', t18, t19', ()), (r0', ())) ∧ I falls6' past7' t19' r0') (fun v => match v with
    | ((g0, falls6, past7, t18, t19, _), (r0, _)) => μ falls6 past7 t19 r0) Q (fun v hv => ?_) ((g0, falls6, past7, t18, t19, ()), (r0, ())) ⟨falls6, past7, t19, r0, rfl, hi⟩
  obtain ⟨falls6, past7, t19, r0, rfl, hi⟩ := hv
  refine led_mono (h falls6 past7 t19 r0 hi) ?_ (fun _ q => q)
  rintro v ⟨falls6', past7', t19', r0', rfl, h1, h2⟩
  exact ⟨⟨falls6', past7', t19', r0', rfl, h1⟩, h2⟩
noncomputable def L3 : Lp := ⟨3, ⟨[(0, none), (1, none), (6, none), (7, none), (17, none), (18, none), (19, none)]⟩, s3, x3, fun v => match v with
  | ((g0, falls6, past7, t18, t19, _), (r0, _)) => F3 g0 falls6 past7 t18 t19 r0⟩
theorem ends3 : Ends L3 rd3 := ends_fin (fun v => by
  obtain ⟨⟨g0, falls6, past7, t18, t19, _⟩, ⟨r0, _⟩⟩ := v
  rfl)
noncomputable def env : Env := mkEnv tab [(38, Neighbours.sig), (68, HH.sig)] 1 [] [L8, L17, L3]
theorem round8 : RoundIs env (sub [true, true, false, true, false, false, true, true, false, false, true, true, true, false, true, false, false] code) L8 rd8 := fun R v k kx => by kernel_rfl
theorem round17 : RoundIs env (sub [true, true, false, true, false, false, true, true, false, false, true, true, true, true, true, true, true, true, true, false, false] code) L17 rd17 := fun R v k kx => by kernel_rfl
theorem round3 : RoundIs env (sub [true, true, false, true, false, false] code) L3 rd3 := fun R v k kx => by kernel_rfl
abbrev D : Type := ((List Int) × Int × Bool × Unit)
noncomputable def run' (g0 : (Option Gr)) (est1 : (List Int)) : Option D := (match F3 (g0) ((0 : Int)) (Bool.false) ((↑(List.length est1) : Int)) ((0 : Int)) (est1) with
  | some (((falls6_3, past7_3, _), (r0_3, _))) => some (r0_3, falls6_3, past7_3, ())
  | none => none)
noncomputable def run (d : Ds (List.map PM.ty ps)) : Option (Ds (muts ps ++ List.map PM.ty rs)) := match d with
  | (g0, est1, _) => run' g0 est1
theorem run_is : ∀ d, runF env 85 code [4, 5] ps rs d = run d := fun d => by kernel_rfl
theorem loops : LoopsOk env code := loopsOk_of (l := [[true, true, false, true, false, false], [true, true, false, true, false, false, true, true, false, false, true, true, true, false, true, false, false], [true, true, false, true, false, false, true, true, false, false, true, true, true, true, true, true, true, true, true, false, false]]) (by kernel_rfl) (fun p hp => by
  simp only [List.mem_cons, List.not_mem_nil, or_false] at hp
  rcases hp with rfl | rfl | rfl
  · exact loopOk_lp (L := L3) (x := sub [true, true, false, true, false, false] code) (by kernel_rfl) (by simp [L3]) round3 ends3
  · exact loopOk_lp (L := L8) (x := sub [true, true, false, true, false, false, true, true, false, false, true, true, true, false, true, false, false] code) (by kernel_rfl) (by simp [L8]) round8 ends8
  · exact loopOk_lp (L := L17) (x := sub [true, true, false, true, false, false, true, true, false, false, true, true, true, true, true, true, true, true, true, false, false] code) (by kernel_rfl) (by simp [L17]) round17 ends17
  )
noncomputable def pre (g0 : (Option Gr)) (est1 : (List Int)) : Bool := (run' g0 est1).isSome
noncomputable def fn (g0 : (Option Gr)) (est1 : (List Int)) : D := match run' g0 est1 with
  | some x => x
  | none => default
noncomputable def sig : Sig := ⟨ps, rs, fun d => match d with
  | (g0, est1, _) => pre g0 est1, fun d => match d with
  | (g0, est1, _) => fn g0 est1⟩
theorem run_fn (g0 : (Option Gr)) (est1 : (List Int)) (h : pre g0 est1 = true) : run' g0 est1 = some (fn g0 est1) := by
  unfold pre at h
  unfold fn
  cases e : run' g0 est1 with
  | some x => rfl
  | none => rw [e] at h; cases h
theorem is_fn (g0 : (Option Gr)) (est1 : (List Int)) {x : D} (h : run' g0 est1 = some x) : pre g0 est1 = true ∧ fn g0 est1 = x := by
  unfold pre fn
  rw [h]
  exact ⟨rfl, rfl⟩
theorem sound {ρ : Obs} (hE : EnvOk Go.Proofs.Try.prog ρ env) : Sound Go.Proofs.Try.prog ρ 130 sig := sound_of (fn := Go.Proofs.Try.f130) (c := code) (res := [4, 5]) hE (by kernel_rfl) (by kernel_rfl) (by kernel_rfl) (by kernel_rfl) (by kernel_rfl) loops rfl (show 2 ≤ 85 by decide) (fun d hd => (run_is d).trans (by
  obtain ⟨g0, est1, _⟩ := d
  exact run_fn g0 est1 hd))
theorem enters : Enters Go.Proofs.Try.prog 130 := enters_of (fn := Go.Proofs.Try.f130) (by kernel_rfl) (by kernel_rfl) (by kernel_rfl)
theorem ok {ρ : Obs} (h : ∀ p ∈ ([(38, Neighbours.sig), (68, HH.sig)] : List (FuncId × Sig)), Enters Go.Proofs.Try.prog p.1 ∧ Sound Go.Proofs.Try.prog ρ p.1 p.2) : Enters Go.Proofs.Try.prog 130 ∧ Sound Go.Proofs.Try.prog ρ 130 sig := ⟨enters, sound (envOk_of tabOk h)⟩
theorem okR : Enters Go.Proofs.Try.prog 130 ∧ Sound Go.Proofs.Try.prog rho 130 sig := ok (fun p hp => by
  simp only [List.mem_cons, List.not_mem_nil, or_false] at hp
  rcases hp with rfl | rfl
  · exact Neighbours.okR
  · exact HH.okR)
end sweepH
/-! pith/hindex.Sweep -/
namespace SweepH
abbrev ps : List PM := [.val (.obj 0), .val (.list I64)]
abbrev rs : List PM := [.own 3 I64, .val I64, .val .bool, .val I64]
noncomputable abbrev code : Code := (Go.Proofs.Try.f71.body.getD .skip)
noncomputable def env : Env := mkEnv tab [(129, may.sig), (130, sweepH.sig)] 0 [] []
abbrev D : Type := ((List Int) × Int × Bool × Int × Unit)
noncomputable def run' (g0 : (Option Gr)) (est1 : (List Int)) : Option D := (if may.pre g0 est1 = Bool.true then (if (!(may.fn g0 est1).1) = Bool.true then some ([], (0 : Int), Bool.false, (70 : Int), ())
 else (if Int.toNat (↑(List.length est1) : Int) * (8 : Nat) ≤ (140737488355328 : Nat) then (if ((0 : Nat) + List.length est1) * (8 : Nat) ≤ (140737488355328 : Nat) then (if sweepH.pre g0 ([] ++ est1) = Bool.true then some ((sweepH.fn g0 ([] ++ est1)).1, (sweepH.fn g0 ([] ++ est1)).2.1, (sweepH.fn g0 ([] ++ est1)).2.2.1, (0 : Int), ())
 else none)
 else none)
 else none))
 else none)
noncomputable def run (d : Ds (List.map PM.ty ps)) : Option (Ds (muts ps ++ List.map PM.ty rs)) := match d with
  | (g0, est1, _) => run' g0 est1
theorem run_is : ∀ d, runF env 29 code [4, 5, 6, 7] ps rs d = run d := fun d => by kernel_rfl
theorem loops : LoopsOk env code := loopsOk_of (l := []) (by kernel_rfl) (fun p hp => by
  cases hp)
noncomputable def pre (g0 : (Option Gr)) (est1 : (List Int)) : Bool := (run' g0 est1).isSome
noncomputable def fn (g0 : (Option Gr)) (est1 : (List Int)) : D := match run' g0 est1 with
  | some x => x
  | none => default
noncomputable def sig : Sig := ⟨ps, rs, fun d => match d with
  | (g0, est1, _) => pre g0 est1, fun d => match d with
  | (g0, est1, _) => fn g0 est1⟩
theorem run_fn (g0 : (Option Gr)) (est1 : (List Int)) (h : pre g0 est1 = true) : run' g0 est1 = some (fn g0 est1) := by
  unfold pre at h
  unfold fn
  cases e : run' g0 est1 with
  | some x => rfl
  | none => rw [e] at h; cases h
theorem is_fn (g0 : (Option Gr)) (est1 : (List Int)) {x : D} (h : run' g0 est1 = some x) : pre g0 est1 = true ∧ fn g0 est1 = x := by
  unfold pre fn
  rw [h]
  exact ⟨rfl, rfl⟩
theorem sound {ρ : Obs} (hE : EnvOk Go.Proofs.Try.prog ρ env) : Sound Go.Proofs.Try.prog ρ 71 sig := sound_of (fn := Go.Proofs.Try.f71) (c := code) (res := [4, 5, 6, 7]) hE (by kernel_rfl) (by kernel_rfl) (by kernel_rfl) (by kernel_rfl) (by kernel_rfl) loops rfl (show 2 ≤ 29 by decide) (fun d hd => (run_is d).trans (by
  obtain ⟨g0, est1, _⟩ := d
  exact run_fn g0 est1 hd))
theorem enters : Enters Go.Proofs.Try.prog 71 := enters_of (fn := Go.Proofs.Try.f71) (by kernel_rfl) (by kernel_rfl) (by kernel_rfl)
theorem ok {ρ : Obs} (h : ∀ p ∈ ([(129, may.sig), (130, sweepH.sig)] : List (FuncId × Sig)), Enters Go.Proofs.Try.prog p.1 ∧ Sound Go.Proofs.Try.prog ρ p.1 p.2) : Enters Go.Proofs.Try.prog 71 ∧ Sound Go.Proofs.Try.prog ρ 71 sig := ⟨enters, sound (envOk_of tabOk h)⟩
theorem okR : Enters Go.Proofs.Try.prog 71 ∧ Sound Go.Proofs.Try.prog rho 71 sig := ok (fun p hp => by
  simp only [List.mem_cons, List.not_mem_nil, or_false] at hp
  rcases hp with rfl | rfl
  · exact may.okR
  · exact sweepH.okR)
end SweepH
/-! pith/hindex.Run -/
namespace RunH
abbrev ps : List PM := [.val (.obj 0), .val (.list I64)]
abbrev rs : List PM := [.own 3 I64, .own 3 I64, .val I64]
noncomputable abbrev code : Code := (Go.Proofs.Try.f76.body.getD .skip)
abbrev s5 : Shape := ⟨[.v (.obj 0), .un, .un, .un, .un, .un, .un, .row 0, .un, .un, .un, .un, .un, .un, .un, .un, .un, .un, .un, .un, .v (.list I64), .v I64, .v I64, .un, .un, .un, .un, .un, .un, .un, .un, .un, .un, .un, .un, .un, .un, .un, .un, .un, .un, .un, .un, .un, .un, .un, .un, .un, .un, .un, .un, .un, .un, .un, .un, .un], [.row (3 : Go.TypeId) I64]⟩
abbrev x5 : List Way := [⟨(.ex 0), ⟨[(0, none), (7, none)]⟩, ⟨[.v (.obj 0), .un, .un, .un, .un, .un, .un, .row 0, .un, .un, .un, .un, .un, .un, .un, .un, .un, .un, .un, .un, .un, .un, .un, .un, .un, .un, .un, .un, .un, .un, .un, .un, .un, .un, .un, .un, .un, .un, .un, .un, .un, .un, .un, .un, .un, .un, .un, .un, .un, .un, .un, .un, .un, .un, .un, .un], [.row (3 : Go.TypeId) I64]⟩⟩]
abbrev V5 : Type := ((Option Gr) × (List Int) × Int × Int × Unit) × ((List Int) × Unit)
abbrev X5 : Type := ((Option Gr) × Unit) × ((List Int) × Unit)
noncomputable def R5 {R : Type} (g0 : (Option Gr)) (t20 : (List Int)) (t21 : Int) (t22 : Int) (r0 : List Int) (k : V5 → Option R) (kx : X5 → Option R) : Option R := (if Decidable.decide (t22 < t21) = Bool.true then (if (0 : Int) ≤ t22 then (if t22 < (↑(List.length t20) : Int) then (if Degree.pre g0 t22 = Bool.true then (if (0 : Int) ≤ t22 then (if t22 < (↑(List.length r0) : Int) then (if Int.toNat t22 < List.length r0 then k ((g0, t20, t21, IntKind.wrap .i64 (t22 + (1 : Int)), ()), (List.set r0 (Int.toNat t22) (if (Degree.fn g0 t22).1 < List.getD t20 (Int.toNat t22) (0 : Int) then (Degree.fn g0 t22).1 else List.getD t20 (Int.toNat t22) (0 : Int)), ()))
 else none)
 else none)
 else none)
 else none)
 else none)
 else none)
 else kx (((g0, ()), (r0, ()))))
noncomputable def rd5 : Rd (VO s5) (Xs x5) := fun v k kx => match v with
  | ((g0, t20, t21, t22, _), (r0, _)) => R5 g0 t20 t21 t22 r0 k kx
noncomputable def F5 (g0 : (Option Gr)) (t20 : (List Int)) (t21 : Int) (t22 : Int) (r0 : List Int) : Option X5 := finOf rd5 ((g0, t20, t21, t22, ()), (r0, ()))
theorem F5_inv {g0 : (Option Gr)} {t20 : (List Int)} {t21 : Int} (I : Int → List Int → Prop) (μ : Int → List Int → Nat) (Q : X5 → Prop) (h : ∀ (t22 : Int) (r0 : List Int), I t22 r0 → Led (fun (R : Type) (k : V5 → Option R) (kx : X5 → Option R) => R5 g0 t20 t21 t22 r0 k kx) (fun v => ∃ (t22' : Int) (r0' : List Int), v = ((g0, t20, t21, t22', ()), (r0', ())) ∧ I t22' r0' ∧ μ t22' r0' < μ t22 r0) Q) : ∀ (t22 : Int) (r0 : List Int), I t22 r0 → ∃ z, F5 g0 t20 t21 t22 r0 = some z ∧ Q z := fun t22 r0 hi => by
  refine finOf_inv (V := V5) (X := X5) (rd := rd5) (fun v => ∃ (t22' : Int) (r0' : List Int), v = ((g0, t20, t21, t22', ()), (r0', ())) ∧ I t22' r0') (fun v => match v with
    | ((g0, t20, t21, t22, _), (r0, _)) => μ t22 r0) Q (fun v hv => ?_) ((g0, t20, t21, t22, ()), (r0, ())) ⟨t22, r0, rfl, hi⟩
  obtain ⟨t22, r0, rfl, hi⟩ := hv
  refine led_mono (h t22 r0 hi) ?_ (fun _ q => q)
  rintro v ⟨t22', r0', rfl, h1, h2⟩
  exact ⟨⟨t22', r0', rfl, h1⟩, h2⟩
noncomputable def L5 : Lp := ⟨5, ⟨[(0, none), (7, none), (20, none), (21, none), (22, none)]⟩, s5, x5, fun v => match v with
  | ((g0, t20, t21, t22, _), (r0, _)) => F5 g0 t20 t21 t22 r0⟩
theorem ends5 : Ends L5 rd5 := ends_fin (fun v => by
  obtain ⟨⟨g0, t20, t21, t22, _⟩, ⟨r0, _⟩⟩ := v
  rfl)
abbrev s11 : Shape := ⟨[.v (.obj 0), .un, .un, .un, .un, .un, .un, .row 0, .un, .un, .row 1, .v .bool, .un, .un, .un, .un, .un, .un, .un, .un, .un, .un, .un, .un, .un, .un, .un, .un, .un, .un, .un, .un, .un, .un, .un, .un, .un, .un, .un, .un, .un, .un, .un, .un, .un, .un, .un, .un, .un, .un, .un, .un, .un, .un, .un, .un], [.row (3 : Go.TypeId) I64, .row (3 : Go.TypeId) I64]⟩
abbrev x11 : List Way := [⟨(.ex 2), ⟨[(7, none), (10, some (.inl ((3 : Go.TypeId), I64)))]⟩, ⟨[.un, .un, .un, .un, .un, .un, .un, .row 0, .un, .un, .row 1, .un, .un, .un, .un, .un, .un, .un, .un, .un, .un, .un, .un, .un, .un, .un, .un, .un, .un, .un, .un, .un, .un, .un, .un, .un, .un, .un, .un, .un, .un, .un, .un, .un, .un, .un, .un, .un, .un, .un, .un, .un, .un, .un, .un, .un], [.row (3 : Go.TypeId) I64, .row (3 : Go.TypeId) I64]⟩⟩]
abbrev V11 : Type := ((Option Gr) × Bool × Unit) × ((List Int) × (List Int) × Unit)
abbrev X11 : Type := (Unit) × ((List Int) × (List Int) × Unit)
noncomputable def R11 {R : Type} (g0 : (Option Gr)) (more11 : Bool) (r0 : List Int) (r1 : List Int) (k : V11 → Option R) (kx : X11 → Option R) : Option R := (if more11 = Bool.true then (if sweepH.pre g0 r0 = Bool.true then (if (List.length r1 + List.length [(sweepH.fn g0 r0).2.1]) * (8 : Nat) ≤ (140737488355328 : Nat) then k ((g0, (sweepH.fn g0 r0).2.2.1, ()), ((sweepH.fn g0 r0).1, r1 ++ [(sweepH.fn g0 r0).2.1], ()))
 else none)
 else none)
 else kx (((()), (r0, r1, ()))))
noncomputable def rd11 : Rd (VO s11) (Xs x11) := fun v k kx => match v with
  | ((g0, more11, _), (r0, r1, _)) => R11 g0 more11 r0 r1 k kx
noncomputable def F11 (g0 : (Option Gr)) (more11 : Bool) (r0 : List Int) (r1 : List Int) : Option X11 := finOf rd11 ((g0, more11, ()), (r0, r1, ()))
theorem F11_inv {g0 : (Option Gr)} (I : Bool → List Int → List Int → Prop) (μ : Bool → List Int → List Int → Nat) (Q : X11 → Prop) (h : ∀ (more11 : Bool) (r0 : List Int) (r1 : List Int), I more11 r0 r1 → Led (fun (R : Type) (k : V11 → Option R) (kx : X11 → Option R) => R11 g0 more11 r0 r1 k kx) (fun v => ∃ (more11' : Bool) (r0' : List Int) (r1' : List Int), v = ((g0, more11', ()), (r0', r1', ())) ∧ I more11' r0' r1' ∧ μ more11' r0' r1' < μ more11 r0 r1) Q) : ∀ (more11 : Bool) (r0 : List Int) (r1 : List Int), I more11 r0 r1 → ∃ z, F11 g0 more11 r0 r1 = some z ∧ Q z := fun more11 r0 r1 hi => by
  refine finOf_inv (V := V11) (X := X11) (rd := rd11) (fun v => ∃ (more11' : Bool) (r0' : List Int) (r1' : List Int), v = ((g0, more11', ()), (r0', r1', ())) ∧ I more11' r0' r1') (fun v => match v with
    | ((g0, more11, _), (r0, r1, _)) => μ more11 r0 r1) Q (fun v hv => ?_) ((g0, more11, ()), (r0, r1, ())) ⟨more11, r0, r1, rfl, hi⟩
  obtain ⟨more11, r0, r1, rfl, hi⟩ := hv
  refine led_mono (h more11 r0 r1 hi) ?_ (fun _ q => q)
  rintro v ⟨more11', r0', r1', rfl, h1, h2⟩
  exact ⟨⟨more11', r0', r1', rfl, h1⟩, h2⟩
noncomputable def L11 : Lp := ⟨11, ⟨[(0, none), (7, none), (10, some (.inl ((3 : Go.TypeId), I64))), (11, none)]⟩, s11, x11, fun v => match v with
  | ((g0, more11, _), (r0, r1, _)) => F11 g0 more11 r0 r1⟩
theorem ends11 : Ends L11 rd11 := ends_fin (fun v => by
  obtain ⟨⟨g0, more11, _⟩, ⟨r0, r1, _⟩⟩ := v
  rfl)
noncomputable def env : Env := mkEnv tab [(129, may.sig), (130, sweepH.sig), (46, Degree.sig), (45, Edges.sig)] 0 [] [L5, L11]
theorem round5 : RoundIs env (sub [true, true, true, false, true, false, false] code) L5 rd5 := fun R v k kx => by kernel_rfl
theorem round11 : RoundIs env (sub [true, true, true, true, true, false, true, false, false] code) L11 rd11 := fun R v k kx => by kernel_rfl
abbrev D : Type := ((List Int) × (List Int) × Int × Unit)
noncomputable def run' (g0 : (Option Gr)) (est1 : (List Int)) : Option D := (if may.pre g0 est1 = Bool.true then (if (!(may.fn g0 est1).1) = Bool.true then some ([], [], (70 : Int), ())
 else (if (↑(List.length est1) : Int) = (↑(List.length est1) : Int) then (if Int.toNat (↑(List.length est1) : Int) * (8 : Nat) ≤ (140737488355328 : Nat) then (match F5 (g0) (est1) ((↑(List.length est1) : Int)) ((0 : Int)) (List.replicate (Int.toNat (↑(List.length est1) : Int)) (0 : Int)) with
  | some (((g0_1, _), (r0_1, _))) => (if Edges.pre g0_1 = Bool.true then (match F11 (g0_1) (Decidable.decide ((Edges.fn g0_1).1 > (0 : Int))) (r0_1) ([]) with
  | some ((_, (r0_2, r1_2, _))) => (if Int.toNat (↑(List.length r1_2) : Int) * (8 : Nat) ≤ (140737488355328 : Nat) then (if ((0 : Nat) + List.length r1_2) * (8 : Nat) ≤ (140737488355328 : Nat) then some (r0_2, [] ++ r1_2, (0 : Int), ())
 else none)
 else none)
  | none => none)
 else none)
  | none => none)
 else none)
 else none))
 else none)
noncomputable def run (d : Ds (List.map PM.ty ps)) : Option (Ds (muts ps ++ List.map PM.ty rs)) := match d with
  | (g0, est1, _) => run' g0 est1
theorem run_is : ∀ d, runF env 56 code [4, 5, 6] ps rs d = run d := fun d => by kernel_rfl
theorem loops : LoopsOk env code := loopsOk_of (l := [[true, true, true, false, true, false, false], [true, true, true, true, true, false, true, false, false]]) (by kernel_rfl) (fun p hp => by
  simp only [List.mem_cons, List.not_mem_nil, or_false] at hp
  rcases hp with rfl | rfl
  · exact loopOk_lp (L := L5) (x := sub [true, true, true, false, true, false, false] code) (by kernel_rfl) (by simp [L5]) round5 ends5
  · exact loopOk_lp (L := L11) (x := sub [true, true, true, true, true, false, true, false, false] code) (by kernel_rfl) (by simp [L11]) round11 ends11
  )
noncomputable def pre (g0 : (Option Gr)) (est1 : (List Int)) : Bool := (run' g0 est1).isSome
noncomputable def fn (g0 : (Option Gr)) (est1 : (List Int)) : D := match run' g0 est1 with
  | some x => x
  | none => default
noncomputable def sig : Sig := ⟨ps, rs, fun d => match d with
  | (g0, est1, _) => pre g0 est1, fun d => match d with
  | (g0, est1, _) => fn g0 est1⟩
theorem run_fn (g0 : (Option Gr)) (est1 : (List Int)) (h : pre g0 est1 = true) : run' g0 est1 = some (fn g0 est1) := by
  unfold pre at h
  unfold fn
  cases e : run' g0 est1 with
  | some x => rfl
  | none => rw [e] at h; cases h
theorem is_fn (g0 : (Option Gr)) (est1 : (List Int)) {x : D} (h : run' g0 est1 = some x) : pre g0 est1 = true ∧ fn g0 est1 = x := by
  unfold pre fn
  rw [h]
  exact ⟨rfl, rfl⟩
theorem sound {ρ : Obs} (hE : EnvOk Go.Proofs.Try.prog ρ env) : Sound Go.Proofs.Try.prog ρ 76 sig := sound_of (fn := Go.Proofs.Try.f76) (c := code) (res := [4, 5, 6]) hE (by kernel_rfl) (by kernel_rfl) (by kernel_rfl) (by kernel_rfl) (by kernel_rfl) loops rfl (show 2 ≤ 56 by decide) (fun d hd => (run_is d).trans (by
  obtain ⟨g0, est1, _⟩ := d
  exact run_fn g0 est1 hd))
theorem enters : Enters Go.Proofs.Try.prog 76 := enters_of (fn := Go.Proofs.Try.f76) (by kernel_rfl) (by kernel_rfl) (by kernel_rfl)
theorem ok {ρ : Obs} (h : ∀ p ∈ ([(129, may.sig), (130, sweepH.sig), (46, Degree.sig), (45, Edges.sig)] : List (FuncId × Sig)), Enters Go.Proofs.Try.prog p.1 ∧ Sound Go.Proofs.Try.prog ρ p.1 p.2) : Enters Go.Proofs.Try.prog 76 ∧ Sound Go.Proofs.Try.prog ρ 76 sig := ⟨enters, sound (envOk_of tabOk h)⟩
theorem okR : Enters Go.Proofs.Try.prog 76 ∧ Sound Go.Proofs.Try.prog rho 76 sig := ok (fun p hp => by
  simp only [List.mem_cons, List.not_mem_nil, or_false] at hp
  rcases hp with rfl | rfl | rfl | rfl
  · exact may.okR
  · exact sweepH.okR
  · exact Degree.okR
  · exact Edges.okR)
end RunH
/-! pith/hindex.Cores -/
namespace CoresH
abbrev ps : List PM := [.val (.obj 0)]
abbrev rs : List PM := [.own 3 I64]
noncomputable abbrev code : Code := (Go.Proofs.Try.f79.body.getD .skip)
abbrev s3 : Shape := ⟨[.v (.obj 0), .un, .un, .row 0, .un, .un, .un, .un, .un, .un, .un, .un, .v I64, .v I64, .un, .un, .un, .un, .un, .un, .un, .un, .un, .un, .un, .un, .un, .un, .un, .un, .un], [.row (3 : Go.TypeId) I64]⟩
abbrev x3 : List Way := [⟨(.ex 0), ⟨[(0, none), (3, none)]⟩, ⟨[.v (.obj 0), .un, .un, .row 0, .un, .un, .un, .un, .un, .un, .un, .un, .un, .un, .un, .un, .un, .un, .un, .un, .un, .un, .un, .un, .un, .un, .un, .un, .un, .un, .un], [.row (3 : Go.TypeId) I64]⟩⟩]
abbrev V3 : Type := ((Option Gr) × Int × Int × Unit) × ((List Int) × Unit)
abbrev X3 : Type := ((Option Gr) × Unit) × ((List Int) × Unit)
noncomputable def R3 {R : Type} (g0 : (Option Gr)) (t12 : Int) (t13 : Int) (r0 : List Int) (k : V3 → Option R) (kx : X3 → Option R) : Option R := (if Decidable.decide (t13 < t12) = Bool.true then (if Degree.pre g0 t13 = Bool.true then (if (0 : Int) ≤ t13 then (if t13 < (↑(List.length r0) : Int) then (if Int.toNat t13 < List.length r0 then k ((g0, t12, IntKind.wrap .i64 (t13 + (1 : Int)), ()), (List.set r0 (Int.toNat t13) (Degree.fn g0 t13).1, ()))
 else none)
 else none)
 else none)
 else none)
 else kx (((g0, ()), (r0, ()))))
noncomputable def rd3 : Rd (VO s3) (Xs x3) := fun v k kx => match v with
  | ((g0, t12, t13, _), (r0, _)) => R3 g0 t12 t13 r0 k kx
noncomputable def F3 (g0 : (Option Gr)) (t12 : Int) (t13 : Int) (r0 : List Int) : Option X3 := finOf rd3 ((g0, t12, t13, ()), (r0, ()))
theorem F3_inv {g0 : (Option Gr)} {t12 : Int} (I : Int → List Int → Prop) (μ : Int → List Int → Nat) (Q : X3 → Prop) (h : ∀ (t13 : Int) (r0 : List Int), I t13 r0 → Led (fun (R : Type) (k : V3 → Option R) (kx : X3 → Option R) => R3 g0 t12 t13 r0 k kx) (fun v => ∃ (t13' : Int) (r0' : List Int), v = ((g0, t12, t13', ()), (r0', ())) ∧ I t13' r0' ∧ μ t13' r0' < μ t13 r0) Q) : ∀ (t13 : Int) (r0 : List Int), I t13 r0 → ∃ z, F3 g0 t12 t13 r0 = some z ∧ Q z := fun t13 r0 hi => by
  refine finOf_inv (V := V3) (X := X3) (rd := rd3) (fun v => ∃ (t13' : Int) (r0' : List Int), v = ((g0, t12, t13', ()), (r0', ())) ∧ I t13' r0') (fun v => match v with
    | ((g0, t12, t13, _), (r0, _)) => μ t13 r0) Q (fun v hv => ?_) ((g0, t12, t13, ()), (r0, ())) ⟨t13, r0, rfl, hi⟩
  obtain ⟨t13, r0, rfl, hi⟩ := hv
  refine led_mono (h t13 r0 hi) ?_ (fun _ q => q)
  rintro v ⟨t13', r0', rfl, h1, h2⟩
  exact ⟨⟨t13', r0', rfl, h1⟩, h2⟩
noncomputable def L3 : Lp := ⟨3, ⟨[(0, none), (3, none), (12, none), (13, none)]⟩, s3, x3, fun v => match v with
  | ((g0, t12, t13, _), (r0, _)) => F3 g0 t12 t13 r0⟩
theorem ends3 : Ends L3 rd3 := ends_fin (fun v => by
  obtain ⟨⟨g0, t12, t13, _⟩, ⟨r0, _⟩⟩ := v
  rfl)
noncomputable def env : Env := mkEnv tab [(93, N.sig), (46, Degree.sig), (76, RunH.sig)] 0 [] [L3]
theorem round3 : RoundIs env (sub [true, true, false, true, false, false] code) L3 rd3 := fun R v k kx => by kernel_rfl
abbrev D : Type := ((List Int) × Unit)
noncomputable def run' (g0 : (Option Gr)) : Option D := (if N.pre g0 = Bool.true then (if (N.fn g0).1 = (N.fn g0).1 then (if (0 : Int) ≤ (N.fn g0).1 then (if Int.toNat (N.fn g0).1 * (8 : Nat) ≤ (140737488355328 : Nat) then (match F3 (g0) ((↑(List.length (List.replicate (Int.toNat (N.fn g0).1) (0 : Int))) : Int)) ((0 : Int)) (List.replicate (Int.toNat (N.fn g0).1) (0 : Int)) with
  | some (((g0_1, _), (r0_1, _))) => (if RunH.pre g0_1 r0_1 = Bool.true then some ((RunH.fn g0_1 r0_1).1, ())
 else none)
  | none => none)
 else none)
 else none)
 else none)
 else none)
noncomputable def run (d : Ds (List.map PM.ty ps)) : Option (Ds (muts ps ++ List.map PM.ty rs)) := match d with
  | (g0, _) => run' g0
theorem run_is : ∀ d, runF env 31 code [2] ps rs d = run d := fun d => by kernel_rfl
theorem loops : LoopsOk env code := loopsOk_of (l := [[true, true, false, true, false, false]]) (by kernel_rfl) (fun p hp => by
  simp only [List.mem_cons, List.not_mem_nil, or_false] at hp
  rcases hp with rfl
  · exact loopOk_lp (L := L3) (x := sub [true, true, false, true, false, false] code) (by kernel_rfl) (by simp [L3]) round3 ends3
  )
noncomputable def pre (g0 : (Option Gr)) : Bool := (run' g0).isSome
noncomputable def fn (g0 : (Option Gr)) : D := match run' g0 with
  | some x => x
  | none => default
noncomputable def sig : Sig := ⟨ps, rs, fun d => match d with
  | (g0, _) => pre g0, fun d => match d with
  | (g0, _) => fn g0⟩
theorem run_fn (g0 : (Option Gr)) (h : pre g0 = true) : run' g0 = some (fn g0) := by
  unfold pre at h
  unfold fn
  cases e : run' g0 with
  | some x => rfl
  | none => rw [e] at h; cases h
theorem is_fn (g0 : (Option Gr)) {x : D} (h : run' g0 = some x) : pre g0 = true ∧ fn g0 = x := by
  unfold pre fn
  rw [h]
  exact ⟨rfl, rfl⟩
theorem sound {ρ : Obs} (hE : EnvOk Go.Proofs.Try.prog ρ env) : Sound Go.Proofs.Try.prog ρ 79 sig := sound_of (fn := Go.Proofs.Try.f79) (c := code) (res := [2]) hE (by kernel_rfl) (by kernel_rfl) (by kernel_rfl) (by kernel_rfl) (by kernel_rfl) loops rfl (show 1 ≤ 31 by decide) (fun d hd => (run_is d).trans (by
  obtain ⟨g0, _⟩ := d
  exact run_fn g0 hd))
theorem enters : Enters Go.Proofs.Try.prog 79 := enters_of (fn := Go.Proofs.Try.f79) (by kernel_rfl) (by kernel_rfl) (by kernel_rfl)
theorem ok {ρ : Obs} (h : ∀ p ∈ ([(93, N.sig), (46, Degree.sig), (76, RunH.sig)] : List (FuncId × Sig)), Enters Go.Proofs.Try.prog p.1 ∧ Sound Go.Proofs.Try.prog ρ p.1 p.2) : Enters Go.Proofs.Try.prog 79 ∧ Sound Go.Proofs.Try.prog ρ 79 sig := ⟨enters, sound (envOk_of tabOk h)⟩
theorem okR : Enters Go.Proofs.Try.prog 79 ∧ Sound Go.Proofs.Try.prog rho 79 sig := ok (fun p hp => by
  simp only [List.mem_cons, List.not_mem_nil, or_false] at hp
  rcases hp with rfl | rfl | rfl
  · exact N.okR
  · exact Degree.okR
  · exact RunH.okR)
end CoresH
/-! pith/pithlaw7.first -/
namespace first7
abbrev ps : List PM := []
abbrev rs : List PM := [.val .bool]
noncomputable abbrev code : Code := (Go.Proofs.Try.f66.body.getD .skip)
noncomputable def env : Env := mkEnv tab [(105, Make.sig), (68, HH.sig), (71, SweepH.sig), (76, RunH.sig), (53, SameIntsH.sig), (79, CoresH.sig), (126, exam7.sig), (74, num7.sig)] 0 [] []
abbrev D : Type := (Bool × Unit)
noncomputable def run' : Option D := (if exam7.pre = Bool.true then (if Make.pre (6 : Int) exam7.fn.1 = Bool.true then (if num7.pre (Make.fn (6 : Int) exam7.fn.1).2.1 = Bool.true then (if ((num7.fn (Make.fn (6 : Int) exam7.fn.1).2.1).1 != (0 : Int)) = Bool.false then (if Option.isNone (Make.fn (6 : Int) exam7.fn.1).1 = Bool.false then (if HH.pre [(3 : Int), (1 : Int), (4 : Int), (1 : Int), (5 : Int)] (9 : Int) = Bool.true then (if ((HH.fn [(3 : Int), (1 : Int), (4 : Int), (1 : Int), (5 : Int)] (9 : Int)).1 != (3 : Int)) = Bool.true then some (Bool.false, ())
 else (if SweepH.pre (Make.fn (6 : Int) exam7.fn.1).1 [(2 : Int), (2 : Int), (3 : Int), (2 : Int), (1 : Int), (0 : Int)] = Bool.true then (if RunH.pre (Make.fn (6 : Int) exam7.fn.1).1 [(9 : Int), (9 : Int), (9 : Int), (9 : Int), (9 : Int), (9 : Int)] = Bool.true then (if SameIntsH.pre (SweepH.fn (Make.fn (6 : Int) exam7.fn.1).1 [(2 : Int), (2 : Int), (3 : Int), (2 : Int), (1 : Int), (0 : Int)]).1 [(2 : Int), (2 : Int), (2 : Int), (1 : Int), (1 : Int), (0 : Int)] = Bool.true then (if (SameIntsH.fn (SweepH.fn (Make.fn (6 : Int) exam7.fn.1).1 [(2 : Int), (2 : Int), (3 : Int), (2 : Int), (1 : Int), (0 : Int)]).1 [(2 : Int), (2 : Int), (2 : Int), (1 : Int), (1 : Int), (0 : Int)]).1 = Bool.true then (if SameIntsH.pre (RunH.fn (Make.fn (6 : Int) exam7.fn.1).1 [(9 : Int), (9 : Int), (9 : Int), (9 : Int), (9 : Int), (9 : Int)]).1 [(2 : Int), (2 : Int), (2 : Int), (1 : Int), (1 : Int), (0 : Int)] = Bool.true then (if (SameIntsH.fn (RunH.fn (Make.fn (6 : Int) exam7.fn.1).1 [(9 : Int), (9 : Int), (9 : Int), (9 : Int), (9 : Int), (9 : Int)]).1 [(2 : Int), (2 : Int), (2 : Int), (1 : Int), (1 : Int), (0 : Int)]).1 = Bool.true then (if SameIntsH.pre (RunH.fn (Make.fn (6 : Int) exam7.fn.1).1 [(9 : Int), (9 : Int), (9 : Int), (9 : Int), (9 : Int), (9 : Int)]).2.1 [(2 : Int), (0 : Int)] = Bool.true then (if CoresH.pre (Make.fn (6 : Int) exam7.fn.1).1 = Bool.true then (if SameIntsH.pre (CoresH.fn (Make.fn (6 : Int) exam7.fn.1).1).1 [(2 : Int), (2 : Int), (2 : Int), (1 : Int), (1 : Int), (0 : Int)] = Bool.true then (if (SameIntsH.fn (RunH.fn (Make.fn (6 : Int) exam7.fn.1).1 [(9 : Int), (9 : Int), (9 : Int), (9 : Int), (9 : Int), (9 : Int)]).2.1 [(2 : Int), (0 : Int)]).1 = Bool.true then (if (SameIntsH.fn (CoresH.fn (Make.fn (6 : Int) exam7.fn.1).1).1 [(2 : Int), (2 : Int), (2 : Int), (1 : Int), (1 : Int), (0 : Int)]).1 = Bool.true then (if ((SweepH.fn (Make.fn (6 : Int) exam7.fn.1).1 [(2 : Int), (2 : Int), (3 : Int), (2 : Int), (1 : Int), (0 : Int)]).2.1 == (2 : Int)) = Bool.true then (if (SweepH.fn (Make.fn (6 : Int) exam7.fn.1).1 [(2 : Int), (2 : Int), (3 : Int), (2 : Int), (1 : Int), (0 : Int)]).2.2.1 = Bool.true then (if num7.pre (SweepH.fn (Make.fn (6 : Int) exam7.fn.1).1 [(2 : Int), (2 : Int), (3 : Int), (2 : Int), (1 : Int), (0 : Int)]).2.2.2.1 = Bool.true then (if ((num7.fn (SweepH.fn (Make.fn (6 : Int) exam7.fn.1).1 [(2 : Int), (2 : Int), (3 : Int), (2 : Int), (1 : Int), (0 : Int)]).2.2.2.1).1 == (0 : Int)) = Bool.true then (if num7.pre (RunH.fn (Make.fn (6 : Int) exam7.fn.1).1 [(9 : Int), (9 : Int), (9 : Int), (9 : Int), (9 : Int), (9 : Int)]).2.2.1 = Bool.true then some ((num7.fn (RunH.fn (Make.fn (6 : Int) exam7.fn.1).1 [(9 : Int), (9 : Int), (9 : Int), (9 : Int), (9 : Int), (9 : Int)]).2.2.1).1 == (0 : Int), ())
 else none)
 else some (Bool.false, ()))
 else none)
 else some (Bool.false, ()))
 else some (Bool.false, ()))
 else some (Bool.false, ()))
 else some (Bool.false, ()))
 else none)
 else none)
 else none)
 else (if CoresH.pre (Make.fn (6 : Int) exam7.fn.1).1 = Bool.true then (if SameIntsH.pre (CoresH.fn (Make.fn (6 : Int) exam7.fn.1).1).1 [(2 : Int), (2 : Int), (2 : Int), (1 : Int), (1 : Int), (0 : Int)] = Bool.true then some (Bool.false, ())
 else none)
 else none))
 else none)
 else (if CoresH.pre (Make.fn (6 : Int) exam7.fn.1).1 = Bool.true then (if SameIntsH.pre (CoresH.fn (Make.fn (6 : Int) exam7.fn.1).1).1 [(2 : Int), (2 : Int), (2 : Int), (1 : Int), (1 : Int), (0 : Int)] = Bool.true then some (Bool.false, ())
 else none)
 else none))
 else none)
 else none)
 else none))
 else none)
 else some (Bool.false, ()))
 else some (Bool.false, ()))
 else none)
 else none)
 else none)
noncomputable def run (d : Ds (List.map PM.ty ps)) : Option (Ds (muts ps ++ List.map PM.ty rs)) := match d with
  | _ => run'
theorem run_is : ∀ d, runF env 84 code [0] ps rs d = run d := fun d => by kernel_rfl
theorem loops : LoopsOk env code := loopsOk_of (l := []) (by kernel_rfl) (fun p hp => by
  cases hp)
noncomputable def pre : Bool := (run').isSome
noncomputable def fn : D := match run' with
  | some x => x
  | none => default
noncomputable def sig : Sig := ⟨ps, rs, fun d => match d with
  | _ => pre, fun d => match d with
  | _ => fn⟩
theorem run_fn (h : pre = true) : run' = some (fn) := by
  unfold pre at h
  unfold fn
  cases e : run' with
  | some x => rfl
  | none => rw [e] at h; cases h
theorem is_fn {x : D} (h : run' = some x) : pre = true ∧ fn = x := by
  unfold pre fn
  rw [h]
  exact ⟨rfl, rfl⟩
theorem sound {ρ : Obs} (hE : EnvOk Go.Proofs.Try.prog ρ env) : Sound Go.Proofs.Try.prog ρ 66 sig := sound_of (fn := Go.Proofs.Try.f66) (c := code) (res := [0]) hE (by kernel_rfl) (by kernel_rfl) (by kernel_rfl) (by kernel_rfl) (by kernel_rfl) loops rfl (show 0 ≤ 84 by decide) (fun d hd => (run_is d).trans (by
  exact run_fn hd))
theorem enters : Enters Go.Proofs.Try.prog 66 := enters_of (fn := Go.Proofs.Try.f66) (by kernel_rfl) (by kernel_rfl) (by kernel_rfl)
theorem ok {ρ : Obs} (h : ∀ p ∈ ([(105, Make.sig), (68, HH.sig), (71, SweepH.sig), (76, RunH.sig), (53, SameIntsH.sig), (79, CoresH.sig), (126, exam7.sig), (74, num7.sig)] : List (FuncId × Sig)), Enters Go.Proofs.Try.prog p.1 ∧ Sound Go.Proofs.Try.prog ρ p.1 p.2) : Enters Go.Proofs.Try.prog 66 ∧ Sound Go.Proofs.Try.prog ρ 66 sig := ⟨enters, sound (envOk_of tabOk h)⟩
theorem okR : Enters Go.Proofs.Try.prog 66 ∧ Sound Go.Proofs.Try.prog rho 66 sig := ok (fun p hp => by
  simp only [List.mem_cons, List.not_mem_nil, or_false] at hp
  rcases hp with rfl | rfl | rfl | rfl | rfl | rfl | rfl | rfl
  · exact Make.okR
  · exact HH.okR
  · exact SweepH.okR
  · exact RunH.okR
  · exact SameIntsH.okR
  · exact CoresH.okR
  · exact exam7.okR
  · exact num7.okR)
end first7
end Go.Proofs.Ythbojpaghbbnnaa.Z
