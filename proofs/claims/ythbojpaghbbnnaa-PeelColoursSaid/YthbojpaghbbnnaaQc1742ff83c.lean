/- A part of a claim: what its statement needs. No condition. -/
import Derived.Test.YthbojpaghbbnnaaQ78134b4a07
namespace Go.Proofs.Ythbojpaghbbnnaa.Z
open Go Go.RowKit
set_option linter.unusedVariables false
set_option linter.unusedSimpArgs false
namespace goesP
abbrev ps : List PM := [.bx 145 [.v (.obj 0), .r 3 I64 false, .r 4 .bool false, .v I64], .val I64]
abbrev rs : List PM := []
noncomputable abbrev code : Code := (Go.Proofs.Try.f136.body.getD .skip)
abbrev s3 : Shape := ⟨[.box 0 0, .un, .un, .un, .un, .un, .un, .un, .un, .un, .un, .un, .un, .un, .un, .un, .un, .un, .un, .un, .un, .un, .un, .un, .v (.list I64), .v I64, .v I64, .un, .un, .un, .un, .un, .un, .un, .un, .un, .un, .un, .un, .un], [.cells (145 : Go.TypeId) [.v (.obj 0), .row 1, .row 2, .v I64], .row (3 : Go.TypeId) I64, .row (4 : Go.TypeId) .bool]⟩
abbrev x3 : List Way := [⟨(.ex 0), ⟨[]⟩, ⟨[.un, .un, .un, .un, .un, .un, .un, .un, .un, .un, .un, .un, .un, .un, .un, .un, .un, .un, .un, .un, .un, .un, .un, .un, .un, .un, .un, .un, .un, .un, .un, .un, .un, .un, .un, .un, .un, .un, .un, .un], [.cells (145 : Go.TypeId) [.v (.obj 0), .row 1, .row 2, .v I64], .row (3 : Go.TypeId) I64, .row (4 : Go.TypeId) .bool]⟩⟩]
abbrev V3 : Type := ((List Int) × Int × Int × Unit) × (((Option Gr) × Int × Unit) × (List Int) × (List Bool) × Unit)
abbrev X3 : Type := (Unit) × (((Option Gr) × Int × Unit) × (List Int) × (List Bool) × Unit)
noncomputable def R3 {R : Type} (t24 : (List Int)) (t25 : Int) (t26 : Int) (c0x0 : (Option Gr)) (c0x3 : Int) (r1 : List Int) (r2 : List Bool) (k : V3 → Option R) (kx : X3 → Option R) : Option R := (if Decidable.decide (t26 < t25) = Bool.true then (if (0 : Int) ≤ t26 then (if t26 < (↑(List.length t24) : Int) then (if (0 : Int) ≤ List.getD t24 (Int.toNat t26) (0 : Int) then (if List.getD t24 (Int.toNat t26) (0 : Int) < (↑(List.length r1) : Int) then (if (0 : Int) ≤ List.getD t24 (Int.toNat t26) (0 : Int) then (if List.getD t24 (Int.toNat t26) (0 : Int) < (↑(List.length r1) : Int) then (if Int.toNat (List.getD t24 (Int.toNat t26) (0 : Int)) < List.length r1 then k ((t24, t25, IntKind.wrap .i64 (t26 + (1 : Int)), ()), ((c0x0, c0x3, ()), List.set r1 (Int.toNat (List.getD t24 (Int.toNat t26) (0 : Int))) (IntKind.wrap .i64 (List.getD r1 (Int.toNat (List.getD t24 (Int.toNat t26) (0 : Int))) (0 : Int) - (1 : Int))), r2, ()))
 else none)
 else none)
 else none)
 else none)
 else none)
 else none)
 else none)
 else kx (((()), ((c0x0, c0x3, ()), r1, r2, ()))))
noncomputable def rd3 : Rd (VO s3) (Xs x3) := fun v k kx => match v with
  | ((t24, t25, t26, _), ((c0x0, c0x3, _), r1, r2, _)) => R3 t24 t25 t26 c0x0 c0x3 r1 r2 k kx
noncomputable def F3 (t24 : (List Int)) (t25 : Int) (t26 : Int) (c0x0 : (Option Gr)) (c0x3 : Int) (r1 : List Int) (r2 : List Bool) : Option X3 := finOf rd3 ((t24, t25, t26, ()), ((c0x0, c0x3, ()), r1, r2, ()))
theorem F3_inv {t24 : (List Int)} {t25 : Int} {c0x0 : (Option Gr)} {c0x3 : Int} {r2 : List Bool} (I : Int → List Int → Prop) (μ : Int → List Int → Nat) (Q : X3 → Prop) (h : ∀ (t26 : Int) (r1 : List Int), I t26 r1 → Led (fun (R : Type) (k : V3 → Option R) (kx : X3 → Option R) => R3 t24 t25 t26 c0x0 c0x3 r1 r2 k kx) (fun v => ∃ (t26' : Int) (r1' : List Int), v = ((t24, t25, t26', ()), ((c0x0, c0x3, ()), r1', r2, ())) ∧ I t26' r1' ∧ μ t26' r1' < μ t26 r1) Q) : ∀ (t26 : Int) (r1 : List Int), I t26 r1 → ∃ z, F3 t24 t25 t26 c0x0 c0x3 r1 r2 = some z ∧ Q z := fun t26 r1 hi => by
  refine finOf_inv (V := V3) (X := X3) (rd := rd3) (fun v => ∃ (t26' : Int) (r1' : List Int), v = ((t24, t25, t26', ()), ((c0x0, c0x3, ()), r1', r2, ())) ∧ I t26' r1') (fun v => match v with
    | ((t24, t25, t26, _), ((c0x0, c0x3, _), r1, r2, _)) => μ t26 r1) Q (fun v hv => ?_) ((t24, t25, t26, ()), ((c0x0, c0x3, ()), r1, r2, ())) ⟨t26, r1, rfl, hi⟩
  obtain ⟨t26, r1, rfl, hi⟩ := hv
  refine led_mono (h t26 r1 hi) ?_ (fun _ q => q)
  rintro v ⟨t26', r1', rfl, h1, h2⟩
  exact ⟨⟨t26', r1', rfl, h1⟩, h2⟩
noncomputable def L3 : Lp := ⟨3, ⟨[(0, none), (24, none), (25, none), (26, none)]⟩, s3, x3, fun v => match v with
  | ((t24, t25, t26, _), ((c0x0, c0x3, _), r1, r2, _)) => F3 t24 t25 t26 c0x0 c0x3 r1 r2⟩
theorem ends3 : Ends L3 rd3 := ends_fin (fun v => by
  obtain ⟨⟨t24, t25, t26, _⟩, ⟨⟨c0x0, c0x3, _⟩, r1, r2, _⟩⟩ := v
  rfl)
noncomputable def env : Env := mkEnv tab6 [(38, Neighbours.sig)] 3 [] [L3]
theorem round3 : RoundIs env (sub [true, true, true, false, false] code) L3 rd3 := fun R v k kx => by kernel_rfl
abbrev D : Type := (((Option Gr) × ((List Int) × ((List Bool) × (Int × Bool)))) × Unit)
noncomputable def run' (p0_0 : (Option Gr)) (p0_1 : (List Int)) (p0_2 : (List Bool)) (p0_3 : Int) (v1 : Int) : Option D := (if (0 : Int) ≤ v1 then (if v1 < (↑(List.length p0_2) : Int) then (if Int.toNat v1 < List.length p0_2 then (if Neighbours.pre p0_0 v1 = Bool.true then (match F3 ((Neighbours.fn p0_0 v1).1) ((↑(List.length (Neighbours.fn p0_0 v1).1) : Int)) ((0 : Int)) (p0_0) (IntKind.wrap .i64 (p0_3 - (1 : Int))) (p0_1) (List.set p0_2 (Int.toNat v1) Bool.true) with
  | some ((_, ((c0x0_1, c0x3_1, _), r1_1, r2_1, _))) => some ((c0x0_1, r1_1, r2_1, c0x3_1, Bool.false), ())
  | none => none)
 else none)
 else none)
 else none)
 else none)
noncomputable def run (d : Ds (List.map PM.ty ps)) : Option (Ds (muts ps ++ List.map PM.ty rs)) := match d with
  | ((p0_0, p0_1, p0_2, p0_3, _), v1, _) => run' p0_0 p0_1 p0_2 p0_3 v1
theorem run_is : ∀ d, runF env 40 code [] ps rs d = run d := fun d => by kernel_rfl
theorem loops : LoopsOk env code := loopsOk_of (l := [[true, true, true, false, false]]) (by kernel_rfl) (fun p hp => by
  simp only [List.mem_cons, List.not_mem_nil, or_false] at hp
  rcases hp with rfl
  · exact loopOk_lp (L := L3) (x := sub [true, true, true, false, false] code) (by kernel_rfl) (by simp [L3]) round3 ends3
  )
noncomputable def pre (p0_0 : (Option Gr)) (p0_1 : (List Int)) (p0_2 : (List Bool)) (p0_3 : Int) (v1 : Int) : Bool := (run' p0_0 p0_1 p0_2 p0_3 v1).isSome
noncomputable def fn (p0_0 : (Option Gr)) (p0_1 : (List Int)) (p0_2 : (List Bool)) (p0_3 : Int) (v1 : Int) : D := match run' p0_0 p0_1 p0_2 p0_3 v1 with
  | some x => x
  | none => default
noncomputable def sig : Sig := ⟨ps, rs, fun d => match d with
  | ((p0_0, p0_1, p0_2, p0_3, _), v1, _) => pre p0_0 p0_1 p0_2 p0_3 v1, fun d => match d with
  | ((p0_0, p0_1, p0_2, p0_3, _), v1, _) => fn p0_0 p0_1 p0_2 p0_3 v1, false⟩
theorem run_fn (p0_0 : (Option Gr)) (p0_1 : (List Int)) (p0_2 : (List Bool)) (p0_3 : Int) (v1 : Int) (h : pre p0_0 p0_1 p0_2 p0_3 v1 = true) : run' p0_0 p0_1 p0_2 p0_3 v1 = some (fn p0_0 p0_1 p0_2 p0_3 v1) := by
  unfold pre at h
  unfold fn
  cases e : run' p0_0 p0_1 p0_2 p0_3 v1 with
  | some x => rfl
  | none => rw [e] at h; cases h
theorem is_fn (p0_0 : (Option Gr)) (p0_1 : (List Int)) (p0_2 : (List Bool)) (p0_3 : Int) (v1 : Int) {x : D} (h : run' p0_0 p0_1 p0_2 p0_3 v1 = some x) : pre p0_0 p0_1 p0_2 p0_3 v1 = true ∧ fn p0_0 p0_1 p0_2 p0_3 v1 = x := by
  unfold pre fn
  rw [h]
  exact ⟨rfl, rfl⟩
theorem sound {ρ : Obs} (hE : EnvOk Go.Proofs.Try.prog ρ env) : Sound Go.Proofs.Try.prog ρ 136 sig := sound_of (fn := Go.Proofs.Try.f136) (c := code) (res := []) hE (by kernel_rfl) (by kernel_rfl) (by kernel_rfl) (by kernel_rfl) (by kernel_rfl) loops rfl (show 2 ≤ 40 by decide) (fun d hd => (run_is d).trans (by
  obtain ⟨⟨p0_0, p0_1, p0_2, p0_3, _⟩, v1, _⟩ := d
  exact run_fn p0_0 p0_1 p0_2 p0_3 v1 hd))
theorem enters : Enters Go.Proofs.Try.prog 136 := enters_of (fn := Go.Proofs.Try.f136) (by kernel_rfl) (by kernel_rfl) (by kernel_rfl)
theorem ok {ρ : Obs} (h : ∀ p ∈ ([(38, Neighbours.sig)] : List (FuncId × Sig)), Enters Go.Proofs.Try.prog p.1 ∧ Sound Go.Proofs.Try.prog ρ p.1 p.2) : Enters Go.Proofs.Try.prog 136 ∧ Sound Go.Proofs.Try.prog ρ 136 sig := ⟨enters, sound (envOk_of tab6Ok h)⟩
theorem okR : Enters Go.Proofs.Try.prog 136 ∧ Sound Go.Proofs.Try.prog rho 136 sig := ok (fun p hp => by
  simp only [List.mem_cons, List.not_mem_nil, or_false] at hp
  rcases hp with rfl
  · exact Neighbours.okR)
end goesP
namespace leastP
abbrev ps : List PM := [.bx 145 [.v (.obj 0), .r 3 I64 false, .r 4 .bool false, .v I64]]
abbrev rs : List PM := [.val I64]
noncomputable abbrev code : Code := (Go.Proofs.Try.f137.body.getD .skip)
abbrev s3 : Shape := ⟨[.box 0 0, .un, .un, .v I64, .un, .un, .un, .un, .un, .un, .un, .un, .un, .un, .row 2, .v I64, .v I64, .un, .un, .un, .un, .un, .un, .un, .un, .un, .un, .un, .un, .un, .un, .un, .un, .un], [.cells (145 : Go.TypeId) [.v (.obj 0), .row 1, .row 2, .v I64], .row (3 : Go.TypeId) I64, .row (4 : Go.TypeId) .bool]⟩
abbrev x3 : List Way := [⟨(.ex 0), ⟨[(3, none)]⟩, ⟨[.un, .un, .un, .v I64, .un, .un, .un, .un, .un, .un, .un, .un, .un, .un, .un, .un, .un, .un, .un, .un, .un, .un, .un, .un, .un, .un, .un, .un, .un, .un, .un, .un, .un, .un], [.cells (145 : Go.TypeId) [.v (.obj 0), .row 1, .row 2, .v I64], .row (3 : Go.TypeId) I64, .row (4 : Go.TypeId) .bool]⟩⟩]
abbrev V3 : Type := (Int × Int × Int × Unit) × (((Option Gr) × Int × Unit) × (List Int) × (List Bool) × Unit)
abbrev X3 : Type := (Int × Unit) × (((Option Gr) × Int × Unit) × (List Int) × (List Bool) × Unit)
noncomputable def R3 {R : Type} (k3 : Int) (t15 : Int) (t16 : Int) (c0x0 : (Option Gr)) (c0x3 : Int) (r1 : List Int) (r2 : List Bool) (k : V3 → Option R) (kx : X3 → Option R) : Option R := (if Decidable.decide (t16 < t15) = Bool.true then (if (0 : Int) ≤ t16 then (if t16 < (↑(List.length r2) : Int) then (if (!List.getD r2 (Int.toNat t16) Bool.false) = Bool.true then (if (0 : Int) ≤ t16 then (if t16 < (↑(List.length r1) : Int) then k ((if List.getD r1 (Int.toNat t16) (0 : Int) < k3 then List.getD r1 (Int.toNat t16) (0 : Int) else k3, t15, IntKind.wrap .i64 (t16 + (1 : Int)), ()), ((c0x0, c0x3, ()), r1, r2, ()))
 else none)
 else none)
 else k ((k3, t15, IntKind.wrap .i64 (t16 + (1 : Int)), ()), ((c0x0, c0x3, ()), r1, r2, ())))
 else none)
 else none)
 else kx (((k3, ()), ((c0x0, c0x3, ()), r1, r2, ()))))
noncomputable def rd3 : Rd (VO s3) (Xs x3) := fun v k kx => match v with
  | ((k3, t15, t16, _), ((c0x0, c0x3, _), r1, r2, _)) => R3 k3 t15 t16 c0x0 c0x3 r1 r2 k kx
noncomputable def F3 (k3 : Int) (t15 : Int) (t16 : Int) (c0x0 : (Option Gr)) (c0x3 : Int) (r1 : List Int) (r2 : List Bool) : Option X3 := finOf rd3 ((k3, t15, t16, ()), ((c0x0, c0x3, ()), r1, r2, ()))
theorem F3_inv {t15 : Int} {c0x0 : (Option Gr)} {c0x3 : Int} {r1 : List Int} {r2 : List Bool} (I : Int → Int → Prop) (μ : Int → Int → Nat) (Q : X3 → Prop) (h : ∀ (k3 : Int) (t16 : Int), I k3 t16 → Led (fun (R : Type) (k : V3 → Option R) (kx : X3 → Option R) => R3 k3 t15 t16 c0x0 c0x3 r1 r2 k kx) (fun v => ∃ (k3' : Int) (t16' : Int), v = ((k3', t15, t16', ()), ((c0x0, c0x3, ()), r1, r2, ())) ∧ I k3' t16' ∧ μ k3' t16' < μ k3 t16) Q) : ∀ (k3 : Int) (t16 : Int), I k3 t16 → ∃ z, F3 k3 t15 t16 c0x0 c0x3 r1 r2 = some z ∧ Q z := fun k3 t16 hi => by
  refine finOf_inv (V := V3) (X := X3) (rd := rd3) (fun v => ∃ (k3' : Int) (t16' : Int), v = ((k3', t15, t16', ()), ((c0x0, c0x3, ()), r1, r2, ())) ∧ I k3' t16') (fun v => match v with
    | ((k3, t15, t16, _), ((c0x0, c0x3, _), r1, r2, _)) => μ k3 t16) Q (fun v hv => ?_) ((k3, t15, t16, ()), ((c0x0, c0x3, ()), r1, r2, ())) ⟨k3, t16, rfl, hi⟩
  obtain ⟨k3, t16, rfl, hi⟩ := hv
  refine led_mono (h k3 t16 hi) ?_ (fun _ q => q)
  rintro v ⟨k3', t16', rfl, h1, h2⟩
  exact ⟨⟨k3', t16', rfl, h1⟩, h2⟩
noncomputable def L3 : Lp := ⟨3, ⟨[(0, none), (3, none), (14, none), (15, none), (16, none)]⟩, s3, x3, fun v => match v with
  | ((k3, t15, t16, _), ((c0x0, c0x3, _), r1, r2, _)) => F3 k3 t15 t16 c0x0 c0x3 r1 r2⟩
theorem ends3 : Ends L3 rd3 := ends_fin (fun v => by
  obtain ⟨⟨k3, t15, t16, _⟩, ⟨⟨c0x0, c0x3, _⟩, r1, r2, _⟩⟩ := v
  rfl)
noncomputable def env : Env := mkEnv tab6 [(93, N.sig)] 3 [] [L3]
theorem round3 : RoundIs env (sub [true, true, false, true, false, false] code) L3 rd3 := fun R v k kx => by kernel_rfl
abbrev D : Type := (((Option Gr) × ((List Int) × ((List Bool) × (Int × Bool)))) × Int × Unit)
noncomputable def run' (p0_0 : (Option Gr)) (p0_1 : (List Int)) (p0_2 : (List Bool)) (p0_3 : Int) : Option D := (if N.pre p0_0 = Bool.true then (match F3 ((N.fn p0_0).1) ((↑(List.length p0_2) : Int)) ((0 : Int)) (p0_0) (p0_3) (p0_1) (p0_2) with
  | some (((k3_1, _), ((c0x0_1, c0x3_1, _), r1_1, r2_1, _))) => some ((c0x0_1, r1_1, r2_1, c0x3_1, Bool.false), k3_1, ())
  | none => none)
 else none)
noncomputable def run (d : Ds (List.map PM.ty ps)) : Option (Ds (muts ps ++ List.map PM.ty rs)) := match d with
  | ((p0_0, p0_1, p0_2, p0_3, _), _) => run' p0_0 p0_1 p0_2 p0_3
theorem run_is : ∀ d, runF env 34 code [2] ps rs d = run d := fun d => by kernel_rfl
theorem loops : LoopsOk env code := loopsOk_of (l := [[true, true, false, true, false, false]]) (by kernel_rfl) (fun p hp => by
  simp only [List.mem_cons, List.not_mem_nil, or_false] at hp
  rcases hp with rfl
  · exact loopOk_lp (L := L3) (x := sub [true, true, false, true, false, false] code) (by kernel_rfl) (by simp [L3]) round3 ends3
  )
noncomputable def pre (p0_0 : (Option Gr)) (p0_1 : (List Int)) (p0_2 : (List Bool)) (p0_3 : Int) : Bool := (run' p0_0 p0_1 p0_2 p0_3).isSome
noncomputable def fn (p0_0 : (Option Gr)) (p0_1 : (List Int)) (p0_2 : (List Bool)) (p0_3 : Int) : D := match run' p0_0 p0_1 p0_2 p0_3 with
  | some x => x
  | none => default
noncomputable def sig : Sig := ⟨ps, rs, fun d => match d with
  | ((p0_0, p0_1, p0_2, p0_3, _), _) => pre p0_0 p0_1 p0_2 p0_3, fun d => match d with
  | ((p0_0, p0_1, p0_2, p0_3, _), _) => fn p0_0 p0_1 p0_2 p0_3, false⟩
theorem run_fn (p0_0 : (Option Gr)) (p0_1 : (List Int)) (p0_2 : (List Bool)) (p0_3 : Int) (h : pre p0_0 p0_1 p0_2 p0_3 = true) : run' p0_0 p0_1 p0_2 p0_3 = some (fn p0_0 p0_1 p0_2 p0_3) := by
  unfold pre at h
  unfold fn
  cases e : run' p0_0 p0_1 p0_2 p0_3 with
  | some x => rfl
  | none => rw [e] at h; cases h
theorem is_fn (p0_0 : (Option Gr)) (p0_1 : (List Int)) (p0_2 : (List Bool)) (p0_3 : Int) {x : D} (h : run' p0_0 p0_1 p0_2 p0_3 = some x) : pre p0_0 p0_1 p0_2 p0_3 = true ∧ fn p0_0 p0_1 p0_2 p0_3 = x := by
  unfold pre fn
  rw [h]
  exact ⟨rfl, rfl⟩
theorem sound {ρ : Obs} (hE : EnvOk Go.Proofs.Try.prog ρ env) : Sound Go.Proofs.Try.prog ρ 137 sig := sound_of (fn := Go.Proofs.Try.f137) (c := code) (res := [2]) hE (by kernel_rfl) (by kernel_rfl) (by kernel_rfl) (by kernel_rfl) (by kernel_rfl) loops rfl (show 1 ≤ 34 by decide) (fun d hd => (run_is d).trans (by
  obtain ⟨⟨p0_0, p0_1, p0_2, p0_3, _⟩, _⟩ := d
  exact run_fn p0_0 p0_1 p0_2 p0_3 hd))
theorem enters : Enters Go.Proofs.Try.prog 137 := enters_of (fn := Go.Proofs.Try.f137) (by kernel_rfl) (by kernel_rfl) (by kernel_rfl)
theorem ok {ρ : Obs} (h : ∀ p ∈ ([(93, N.sig)] : List (FuncId × Sig)), Enters Go.Proofs.Try.prog p.1 ∧ Sound Go.Proofs.Try.prog ρ p.1 p.2) : Enters Go.Proofs.Try.prog 137 ∧ Sound Go.Proofs.Try.prog ρ 137 sig := ⟨enters, sound (envOk_of tab6Ok h)⟩
theorem okR : Enters Go.Proofs.Try.prog 137 ∧ Sound Go.Proofs.Try.prog rho 137 sig := ok (fun p hp => by
  simp only [List.mem_cons, List.not_mem_nil, or_false] at hp
  rcases hp with rfl
  · exact N.okR)
end leastP
namespace OrderP
abbrev ps : List PM := [.val (.obj 0)]
abbrev rs : List PM := [.own 3 I64]
noncomputable abbrev code : Code := (Go.Proofs.Try.f84.body.getD .skip)
abbrev s7 : Shape := ⟨[.un, .un, .un, .box 0 0, .row 1, .v I64, .v I64, .un, .un, .un, .un, .un, .un, .un, .un, .un, .un, .un, .un, .un, .un, .un, .un, .row 2, .v I64, .v I64, .un, .un, .un, .un, .un, .un, .un, .un, .un, .un, .un, .un, .un, .un, .un, .un, .un, .un, .un, .un, .un, .un, .un, .un, .un, .un, .un, .un, .un, .un, .un, .un, .un, .un], [.cells (145 : Go.TypeId) [.v (.obj 0), .row 3, .row 2, .v I64], .row (3 : Go.TypeId) I64, .row (4 : Go.TypeId) .bool, .row (3 : Go.TypeId) I64]⟩
abbrev x7 : List Way := [⟨(.ex 2), ⟨[(3, none), (4, some (.inl ((3 : Go.TypeId), I64))), (5, none), (6, none)]⟩, ⟨[.un, .un, .un, .box 0 0, .row 1, .v I64, .v I64, .un, .un, .un, .un, .un, .un, .un, .un, .un, .un, .un, .un, .un, .un, .un, .un, .un, .un, .un, .un, .un, .un, .un, .un, .un, .un, .un, .un, .un, .un, .un, .un, .un, .un, .un, .un, .un, .un, .un, .un, .un, .un, .un, .un, .un, .un, .un, .un, .un, .un, .un, .un, .un], [.cells (145 : Go.TypeId) [.v (.obj 0), .row 2, .row 3, .v I64], .row (3 : Go.TypeId) I64, .row (3 : Go.TypeId) I64, .row (4 : Go.TypeId) .bool]⟩⟩]
abbrev V7 : Type := (Int × Int × Int × Int × Unit) × (((Option Gr) × Int × Unit) × (List Int) × (List Bool) × (List Int) × Unit)
abbrev X7 : Type := (Int × Int × Unit) × (((Option Gr) × Int × Unit) × (List Int) × (List Int) × (List Bool) × Unit)
noncomputable def R7 {R : Type} (k5 : Int) (was6 : Int) (t24 : Int) (t25 : Int) (c0x0 : (Option Gr)) (c0x3 : Int) (r1 : List Int) (r2 : List Bool) (r3 : List Int) (k : V7 → Option R) (kx : X7 → Option R) : Option R := (if Decidable.decide (t25 < t24) = Bool.true then (if (0 : Int) ≤ t25 then (if t25 < (↑(List.length r2) : Int) then (if (!List.getD r2 (Int.toNat t25) Bool.false) = Bool.true then (if (0 : Int) ≤ t25 then (if t25 < (↑(List.length r3) : Int) then (if Decidable.decide (List.getD r3 (Int.toNat t25) (0 : Int) ≤ k5) = Bool.true then (if goesP.pre c0x0 r3 r2 c0x3 t25 = Bool.true then (if (List.length r1 + List.length [t25]) * (8 : Nat) ≤ (140737488355328 : Nat) then k ((k5, was6, t24, IntKind.wrap .i64 (t25 + (1 : Int)), ()), (((goesP.fn c0x0 r3 r2 c0x3 t25).1.1, (goesP.fn c0x0 r3 r2 c0x3 t25).1.2.2.2.1, ()), r1 ++ [t25], (goesP.fn c0x0 r3 r2 c0x3 t25).1.2.2.1, (goesP.fn c0x0 r3 r2 c0x3 t25).1.2.1, ()))
 else none)
 else none)
 else k ((k5, was6, t24, IntKind.wrap .i64 (t25 + (1 : Int)), ()), ((c0x0, c0x3, ()), r1, r2, r3, ())))
 else none)
 else none)
 else k ((k5, was6, t24, IntKind.wrap .i64 (t25 + (1 : Int)), ()), ((c0x0, c0x3, ()), r1, r2, r3, ())))
 else none)
 else none)
 else kx (((k5, was6, ()), ((c0x0, c0x3, ()), r1, r3, r2, ()))))
noncomputable def rd7 : Rd (VO s7) (Xs x7) := fun v k kx => match v with
  | ((k5, was6, t24, t25, _), ((c0x0, c0x3, _), r1, r2, r3, _)) => R7 k5 was6 t24 t25 c0x0 c0x3 r1 r2 r3 k kx
noncomputable def F7 (k5 : Int) (was6 : Int) (t24 : Int) (t25 : Int) (c0x0 : (Option Gr)) (c0x3 : Int) (r1 : List Int) (r2 : List Bool) (r3 : List Int) : Option X7 := finOf rd7 ((k5, was6, t24, t25, ()), ((c0x0, c0x3, ()), r1, r2, r3, ()))
theorem F7_inv {k5 : Int} {was6 : Int} {t24 : Int} (I : Int → (Option Gr) → Int → List Int → List Bool → List Int → Prop) (μ : Int → (Option Gr) → Int → List Int → List Bool → List Int → Nat) (Q : X7 → Prop) (h : ∀ (t25 : Int) (c0x0 : (Option Gr)) (c0x3 : Int) (r1 : List Int) (r2 : List Bool) (r3 : List Int), I t25 c0x0 c0x3 r1 r2 r3 → Led (fun (R : Type) (k : V7 → Option R) (kx : X7 → Option R) => R7 k5 was6 t24 t25 c0x0 c0x3 r1 r2 r3 k kx) (fun v => ∃ (t25' : Int) (c0x0' : (Option Gr)) (c0x3' : Int) (r1' : List Int) (r2' : List Bool) (r3' : List Int), v = ((k5, was6, t24, t25', ()), ((c0x0', c0x3', ()), r1', r2', r3', ())) ∧ I t25' c0x0' c0x3' r1' r2' r3' ∧ μ t25' c0x0' c0x3' r1' r2' r3' < μ t25 c0x0 c0x3 r1 r2 r3) Q) : ∀ (t25 : Int) (c0x0 : (Option Gr)) (c0x3 : Int) (r1 : List Int) (r2 : List Bool) (r3 : List Int), I t25 c0x0 c0x3 r1 r2 r3 → ∃ z, F7 k5 was6 t24 t25 c0x0 c0x3 r1 r2 r3 = some z ∧ Q z := fun t25 c0x0 c0x3 r1 r2 r3 hi => by
  refine finOf_inv (V := V7) (X := X7) (rd := rd7) (fun v => ∃ (t25' : Int) (c0x0' : (Option Gr)) (c0x3' : Int) (r1' : List Int) (r2' : List Bool) (r3' : List Int), v = ((k5, was6, t24, t25', ()), ((c0x0', c0x3', ()), r1', r2', r3', ())) ∧ I t25' c0x0' c0x3' r1' r2' r3') (fun v => match v with
    | ((k5, was6, t24, t25, _), ((c0x0, c0x3, _), r1, r2, r3, _)) => μ t25 c0x0 c0x3 r1 r2 r3) Q (fun v hv => ?_) ((k5, was6, t24, t25, ()), ((c0x0, c0x3, ()), r1, r2, r3, ())) ⟨t25, c0x0, c0x3, r1, r2, r3, rfl, hi⟩
  obtain ⟨t25, c0x0, c0x3, r1, r2, r3, rfl, hi⟩ := hv
  refine led_mono (h t25 c0x0 c0x3 r1 r2 r3 hi) ?_ (fun _ q => q)
  rintro v ⟨t25', c0x0', c0x3', r1', r2', r3', rfl, h1, h2⟩
  exact ⟨⟨t25', c0x0', c0x3', r1', r2', r3', rfl, h1⟩, h2⟩
noncomputable def L7 : Lp := ⟨7, ⟨[(3, none), (4, some (.inl ((3 : Go.TypeId), I64))), (5, none), (6, none), (23, none), (24, none), (25, none)]⟩, s7, x7, fun v => match v with
  | ((k5, was6, t24, t25, _), ((c0x0, c0x3, _), r1, r2, r3, _)) => F7 k5 was6 t24 t25 c0x0 c0x3 r1 r2 r3⟩
theorem ends7 : Ends L7 rd7 := ends_fin (fun v => by
  obtain ⟨⟨k5, was6, t24, t25, _⟩, ⟨⟨c0x0, c0x3, _⟩, r1, r2, r3, _⟩⟩ := v
  rfl)
abbrev s4 : Shape := ⟨[.un, .un, .un, .box 0 0, .row 1, .v I64, .un, .un, .un, .un, .un, .un, .un, .un, .un, .un, .un, .un, .un, .un, .un, .un, .un, .un, .un, .un, .un, .un, .un, .un, .un, .un, .un, .un, .un, .un, .un, .un, .un, .un, .un, .un, .un, .un, .un, .un, .un, .un, .un, .un, .un, .un, .un, .un, .un, .un, .un, .un, .un, .un], [.cells (145 : Go.TypeId) [.v (.obj 0), .row 2, .row 3, .v I64], .row (3 : Go.TypeId) I64, .row (3 : Go.TypeId) I64, .row (4 : Go.TypeId) .bool]⟩
abbrev x4 : List Way := [⟨(.ex 0), ⟨[(4, some (.inl ((3 : Go.TypeId), I64)))]⟩, ⟨[.un, .un, .un, .un, .row 0, .un, .un, .un, .un, .un, .un, .un, .un, .un, .un, .un, .un, .un, .un, .un, .un, .un, .un, .un, .un, .un, .un, .un, .un, .un, .un, .un, .un, .un, .un, .un, .un, .un, .un, .un, .un, .un, .un, .un, .un, .un, .un, .un, .un, .un, .un, .un, .un, .un, .un, .un, .un, .un, .un, .un], [.row (3 : Go.TypeId) I64]⟩⟩]
abbrev V4 : Type := (Int × Unit) × (((Option Gr) × Int × Unit) × (List Int) × (List Int) × (List Bool) × Unit)
abbrev X4 : Type := (Unit) × ((List Int) × Unit)
noncomputable def R4 {R : Type} (k5 : Int) (c0x0 : (Option Gr)) (c0x3 : Int) (r1 : List Int) (r2 : List Int) (r3 : List Bool) (k : V4 → Option R) (kx : X4 → Option R) : Option R := (if Decidable.decide (c0x3 > (0 : Int)) = Bool.true then (match F7 (k5) (c0x3) ((↑(List.length r3) : Int)) ((0 : Int)) (c0x0) (c0x3) (r1) (r3) (r2) with
  | some (((k5_1, was6_1, _), ((c0x0_1, c0x3_1, _), r1_1, r2_1, r3_1, _))) => (if (c0x3_1 == was6_1) = Bool.true then (if leastP.pre c0x0_1 r2_1 r3_1 c0x3_1 = Bool.true then k (((leastP.fn c0x0_1 r2_1 r3_1 c0x3_1).2.1, ()), (((leastP.fn c0x0_1 r2_1 r3_1 c0x3_1).1.1, (leastP.fn c0x0_1 r2_1 r3_1 c0x3_1).1.2.2.2.1, ()), r1_1, (leastP.fn c0x0_1 r2_1 r3_1 c0x3_1).1.2.1, (leastP.fn c0x0_1 r2_1 r3_1 c0x3_1).1.2.2.1, ()))
 else none)
 else k ((k5_1, ()), ((c0x0_1, c0x3_1, ()), r1_1, r2_1, r3_1, ())))
  | none => none)
 else kx (((()), (r1, ()))))
noncomputable def rd4 : Rd (VO s4) (Xs x4) := fun v k kx => match v with
  | ((k5, _), ((c0x0, c0x3, _), r1, r2, r3, _)) => R4 k5 c0x0 c0x3 r1 r2 r3 k kx
noncomputable def F4 (k5 : Int) (c0x0 : (Option Gr)) (c0x3 : Int) (r1 : List Int) (r2 : List Int) (r3 : List Bool) : Option X4 := finOf rd4 ((k5, ()), ((c0x0, c0x3, ()), r1, r2, r3, ()))
theorem F4_inv  (I : Int → (Option Gr) → Int → List Int → List Int → List Bool → Prop) (μ : Int → (Option Gr) → Int → List Int → List Int → List Bool → Nat) (Q : X4 → Prop) (h : ∀ (k5 : Int) (c0x0 : (Option Gr)) (c0x3 : Int) (r1 : List Int) (r2 : List Int) (r3 : List Bool), I k5 c0x0 c0x3 r1 r2 r3 → Led (fun (R : Type) (k : V4 → Option R) (kx : X4 → Option R) => R4 k5 c0x0 c0x3 r1 r2 r3 k kx) (fun v => ∃ (k5' : Int) (c0x0' : (Option Gr)) (c0x3' : Int) (r1' : List Int) (r2' : List Int) (r3' : List Bool), v = ((k5', ()), ((c0x0', c0x3', ()), r1', r2', r3', ())) ∧ I k5' c0x0' c0x3' r1' r2' r3' ∧ μ k5' c0x0' c0x3' r1' r2' r3' < μ k5 c0x0 c0x3 r1 r2 r3) Q) : ∀ (k5 : Int) (c0x0 : (Option Gr)) (c0x3 : Int) (r1 : List Int) (r2 : List Int) (r3 : List Bool), I k5 c0x0 c0x3 r1 r2 r3 → ∃ z, F4 k5 c0x0 c0x3 r1 r2 r3 = some z ∧ Q z := fun k5 c0x0 c0x3 r1 r2 r3 hi => by
  refine finOf_inv (V := V4) (X := X4) (rd := rd4) (fun v => ∃ (k5' : Int) (c0x0' : (Option Gr)) (c0x3' : Int) (r1' : List Int) (r2' : List Int) (r3' : List Bool), v = ((k5', ()), ((c0x0', c0x3', ()), r1', r2', r3', ())) ∧ I k5' c0x0' c0x3' r1' r2' r3') (fun v => match v with
    | ((k5, _), ((c0x0, c0x3, _), r1, r2, r3, _)) => μ k5 c0x0 c0x3 r1 r2 r3) Q (fun v hv => ?_) ((k5, ()), ((c0x0, c0x3, ()), r1, r2, r3, ())) ⟨k5, c0x0, c0x3, r1, r2, r3, rfl, hi⟩
  obtain ⟨k5, c0x0, c0x3, r1, r2, r3, rfl, hi⟩ := hv
  refine led_mono (h k5 c0x0 c0x3 r1 r2 r3 hi) ?_ (fun _ q => q)
  rintro v ⟨k5', c0x0', c0x3', r1', r2', r3', rfl, h1, h2⟩
  exact ⟨⟨k5', c0x0', c0x3', r1', r2', r3', rfl, h1⟩, h2⟩
noncomputable def L4 : Lp := ⟨4, ⟨[(3, none), (4, some (.inl ((3 : Go.TypeId), I64))), (5, none)]⟩, s4, x4, fun v => match v with
  | ((k5, _), ((c0x0, c0x3, _), r1, r2, r3, _)) => F4 k5 c0x0 c0x3 r1 r2 r3⟩
theorem ends4 : Ends L4 rd4 := ends_fin (fun v => by
  obtain ⟨⟨k5, _⟩, ⟨⟨c0x0, c0x3, _⟩, r1, r2, r3, _⟩⟩ := v
  rfl)
noncomputable def env : Env := mkEnv tab6 [(135, peelP.sig), (136, goesP.sig), (137, leastP.sig)] 0 [] [L7, L4]
theorem round7 : RoundIs env (sub [true, true, true, false, true, false, false, true, false, true, false, true, false, false] code) L7 rd7 := fun R v k kx => by kernel_rfl
theorem round4 : RoundIs env (sub [true, true, true, false, true, false, false] code) L4 rd4 := fun R v k kx => by kernel_rfl
abbrev D : Type := ((List Int) × Unit)
noncomputable def run' (g0 : (Option Gr)) : Option D := (if peelP.pre g0 = Bool.true then (if Option.isNone (peelP.fn g0).1 = Bool.true then none
 else (match F4 ((0 : Int)) ((Option.getD (peelP.fn g0).1 (Option.none, [], [], (0 : Int), Bool.false)).1) ((Option.getD (peelP.fn g0).1 (Option.none, [], [], (0 : Int), Bool.false)).2.2.2.1) ([]) ((Option.getD (peelP.fn g0).1 (Option.none, [], [], (0 : Int), Bool.false)).2.1) ((Option.getD (peelP.fn g0).1 (Option.none, [], [], (0 : Int), Bool.false)).2.2.1) with
  | some ((_, (r0_2, _))) => some (r0_2, ())
  | none => none))
 else none)
noncomputable def run (d : Ds (List.map PM.ty ps)) : Option (Ds (muts ps ++ List.map PM.ty rs)) := match d with
  | (g0, _) => run' g0
theorem run_is : ∀ d, runF env 60 code [2] ps rs d = run d := fun d => by kernel_rfl
theorem loops : LoopsOk env code := loopsOk_of (l := [[true, true, true, false, true, false, false], [true, true, true, false, true, false, false, true, false, true, false, true, false, false]]) (by kernel_rfl) (fun p hp => by
  simp only [List.mem_cons, List.not_mem_nil, or_false] at hp
  rcases hp with rfl | rfl
  · exact loopOk_lp (L := L4) (x := sub [true, true, true, false, true, false, false] code) (by kernel_rfl) (by simp [L4]) round4 ends4
  · exact loopOk_lp (L := L7) (x := sub [true, true, true, false, true, false, false, true, false, true, false, true, false, false] code) (by kernel_rfl) (by simp [L7]) round7 ends7
  )
noncomputable def pre (g0 : (Option Gr)) : Bool := (run' g0).isSome
noncomputable def fn (g0 : (Option Gr)) : D := match run' g0 with
  | some x => x
  | none => default
noncomputable def sig : Sig := ⟨ps, rs, fun d => match d with
  | (g0, _) => pre g0, fun d => match d with
  | (g0, _) => fn g0, false⟩
theorem run_fn (g0 : (Option Gr)) (h : pre g0 = true) : run' g0 = some (fn g0) := by
  unfold pre at h
  unfold fn
  cases e : run' g0 with
  | some x => rfl
  | none => rw [e] at h; cases h
theorem is_fn (g0 : (Option Gr)) {x : D} (h : run' g0 = some x) : pre g0 = true ∧ fn g0 = x := by
  unfold pre fn
  rw [h]
  exact ⟨rfl, rfl⟩
theorem sound {ρ : Obs} (hE : EnvOk Go.Proofs.Try.prog ρ env) : Sound Go.Proofs.Try.prog ρ 84 sig := sound_of (fn := Go.Proofs.Try.f84) (c := code) (res := [2]) hE (by kernel_rfl) (by kernel_rfl) (by kernel_rfl) (by kernel_rfl) (by kernel_rfl) loops rfl (show 1 ≤ 60 by decide) (fun d hd => (run_is d).trans (by
  obtain ⟨g0, _⟩ := d
  exact run_fn g0 hd))
theorem enters : Enters Go.Proofs.Try.prog 84 := enters_of (fn := Go.Proofs.Try.f84) (by kernel_rfl) (by kernel_rfl) (by kernel_rfl)
theorem ok {ρ : Obs} (h : ∀ p ∈ ([(135, peelP.sig), (136, goesP.sig), (137, leastP.sig)] : List (FuncId × Sig)), Enters Go.Proofs.Try.prog p.1 ∧ Sound Go.Proofs.Try.prog ρ p.1 p.2) : Enters Go.Proofs.Try.prog 84 ∧ Sound Go.Proofs.Try.prog ρ 84 sig := ⟨enters, sound (envOk_of tab6Ok h)⟩
theorem okR : Enters Go.Proofs.Try.prog 84 ∧ Sound Go.Proofs.Try.prog rho 84 sig := ok (fun p hp => by
  simp only [List.mem_cons, List.not_mem_nil, or_false] at hp
  rcases hp with rfl | rfl | rfl
  · exact peelP.okR
  · exact goesP.okR
  · exact leastP.okR)
end OrderP
namespace OnionP
abbrev ps : List PM := [.val (.obj 0)]
abbrev rs : List PM := [.own 3 I64]
noncomputable abbrev code : Code := (Go.Proofs.Try.f86.body.getD .skip)
abbrev s8 : Shape := ⟨[.un, .un, .un, .box 0 0, .row 1, .v I64, .v I64, .row 2, .un, .un, .un, .un, .un, .un, .un, .un, .un, .un, .un, .un, .un, .un, .un, .un, .un, .row 3, .v I64, .v I64, .un, .un, .un, .un, .un, .un, .un, .un, .un, .un, .un, .un, .un, .un, .un, .un, .un, .un, .un, .un, .un, .un, .un, .un, .un, .un, .un, .un, .un, .un, .un, .un, .un, .un, .un, .un, .un, .un, .un, .un, .un, .un, .un, .un], [.cells (145 : Go.TypeId) [.v (.obj 0), .row 4, .row 3, .v I64], .row (3 : Go.TypeId) I64, .row (3 : Go.TypeId) I64, .row (4 : Go.TypeId) .bool, .row (3 : Go.TypeId) I64]⟩
abbrev x8 : List Way := [⟨(.ex 2), ⟨[(3, none), (4, none), (5, none), (6, none), (7, some (.inl ((3 : Go.TypeId), I64)))]⟩, ⟨[.un, .un, .un, .box 0 0, .row 1, .v I64, .v I64, .row 2, .un, .un, .un, .un, .un, .un, .un, .un, .un, .un, .un, .un, .un, .un, .un, .un, .un, .un, .un, .un, .un, .un, .un, .un, .un, .un, .un, .un, .un, .un, .un, .un, .un, .un, .un, .un, .un, .un, .un, .un, .un, .un, .un, .un, .un, .un, .un, .un, .un, .un, .un, .un, .un, .un, .un, .un, .un, .un, .un, .un, .un, .un, .un, .un], [.cells (145 : Go.TypeId) [.v (.obj 0), .row 3, .row 4, .v I64], .row (3 : Go.TypeId) I64, .row (3 : Go.TypeId) I64, .row (3 : Go.TypeId) I64, .row (4 : Go.TypeId) .bool]⟩⟩]
abbrev V8 : Type := (Int × Int × Int × Int × Unit) × (((Option Gr) × Int × Unit) × (List Int) × (List Int) × (List Bool) × (List Int) × Unit)
abbrev X8 : Type := (Int × Int × Unit) × (((Option Gr) × Int × Unit) × (List Int) × (List Int) × (List Int) × (List Bool) × Unit)
noncomputable def R8 {R : Type} (round5 : Int) (k6 : Int) (t26 : Int) (t27 : Int) (c0x0 : (Option Gr)) (c0x3 : Int) (r1 : List Int) (r2 : List Int) (r3 : List Bool) (r4 : List Int) (k : V8 → Option R) (kx : X8 → Option R) : Option R := (if Decidable.decide (t27 < t26) = Bool.true then (if (0 : Int) ≤ t27 then (if t27 < (↑(List.length r3) : Int) then (if (!List.getD r3 (Int.toNat t27) Bool.false) = Bool.true then (if (0 : Int) ≤ t27 then (if t27 < (↑(List.length r4) : Int) then (if Decidable.decide (List.getD r4 (Int.toNat t27) (0 : Int) ≤ k6) = Bool.true then (if (List.length r2 + List.length [t27]) * (8 : Nat) ≤ (140737488355328 : Nat) then k ((round5, k6, t26, IntKind.wrap .i64 (t27 + (1 : Int)), ()), ((c0x0, c0x3, ()), r1, r2 ++ [t27], r3, r4, ()))
 else none)
 else k ((round5, k6, t26, IntKind.wrap .i64 (t27 + (1 : Int)), ()), ((c0x0, c0x3, ()), r1, r2, r3, r4, ())))
 else none)
 else none)
 else k ((round5, k6, t26, IntKind.wrap .i64 (t27 + (1 : Int)), ()), ((c0x0, c0x3, ()), r1, r2, r3, r4, ())))
 else none)
 else none)
 else kx (((round5, k6, ()), ((c0x0, c0x3, ()), r1, r2, r4, r3, ()))))
noncomputable def rd8 : Rd (VO s8) (Xs x8) := fun v k kx => match v with
  | ((round5, k6, t26, t27, _), ((c0x0, c0x3, _), r1, r2, r3, r4, _)) => R8 round5 k6 t26 t27 c0x0 c0x3 r1 r2 r3 r4 k kx
noncomputable def F8 (round5 : Int) (k6 : Int) (t26 : Int) (t27 : Int) (c0x0 : (Option Gr)) (c0x3 : Int) (r1 : List Int) (r2 : List Int) (r3 : List Bool) (r4 : List Int) : Option X8 := finOf rd8 ((round5, k6, t26, t27, ()), ((c0x0, c0x3, ()), r1, r2, r3, r4, ()))
theorem F8_inv {round5 : Int} {k6 : Int} {t26 : Int} {c0x0 : (Option Gr)} {c0x3 : Int} {r1 : List Int} {r3 : List Bool} {r4 : List Int} (I : Int → List Int → Prop) (μ : Int → List Int → Nat) (Q : X8 → Prop) (h : ∀ (t27 : Int) (r2 : List Int), I t27 r2 → Led (fun (R : Type) (k : V8 → Option R) (kx : X8 → Option R) => R8 round5 k6 t26 t27 c0x0 c0x3 r1 r2 r3 r4 k kx) (fun v => ∃ (t27' : Int) (r2' : List Int), v = ((round5, k6, t26, t27', ()), ((c0x0, c0x3, ()), r1, r2', r3, r4, ())) ∧ I t27' r2' ∧ μ t27' r2' < μ t27 r2) Q) : ∀ (t27 : Int) (r2 : List Int), I t27 r2 → ∃ z, F8 round5 k6 t26 t27 c0x0 c0x3 r1 r2 r3 r4 = some z ∧ Q z := fun t27 r2 hi => by
  refine finOf_inv (V := V8) (X := X8) (rd := rd8) (fun v => ∃ (t27' : Int) (r2' : List Int), v = ((round5, k6, t26, t27', ()), ((c0x0, c0x3, ()), r1, r2', r3, r4, ())) ∧ I t27' r2') (fun v => match v with
    | ((round5, k6, t26, t27, _), ((c0x0, c0x3, _), r1, r2, r3, r4, _)) => μ t27 r2) Q (fun v hv => ?_) ((round5, k6, t26, t27, ()), ((c0x0, c0x3, ()), r1, r2, r3, r4, ())) ⟨t27, r2, rfl, hi⟩
  obtain ⟨t27, r2, rfl, hi⟩ := hv
  refine led_mono (h t27 r2 hi) ?_ (fun _ q => q)
  rintro v ⟨t27', r2', rfl, h1, h2⟩
  exact ⟨⟨t27', r2', rfl, h1⟩, h2⟩
noncomputable def L8 : Lp := ⟨8, ⟨[(3, none), (4, none), (5, none), (6, none), (7, some (.inl ((3 : Go.TypeId), I64))), (25, none), (26, none), (27, none)]⟩, s8, x8, fun v => match v with
  | ((round5, k6, t26, t27, _), ((c0x0, c0x3, _), r1, r2, r3, r4, _)) => F8 round5 k6 t26 t27 c0x0 c0x3 r1 r2 r3 r4⟩
theorem ends8 : Ends L8 rd8 := ends_fin (fun v => by
  obtain ⟨⟨round5, k6, t26, t27, _⟩, ⟨⟨c0x0, c0x3, _⟩, r1, r2, r3, r4, _⟩⟩ := v
  rfl)
abbrev s16 : Shape := ⟨[.un, .un, .un, .box 0 0, .row 1, .v I64, .v I64, .un, .un, .un, .un, .un, .un, .un, .un, .un, .un, .un, .un, .un, .un, .un, .un, .un, .un, .un, .un, .un, .un, .un, .un, .un, .un, .un, .un, .un, .un, .un, .un, .un, .un, .un, .un, .un, .un, .un, .un, .un, .un, .un, .un, .un, .un, .un, .un, .row 2, .v I64, .v I64, .un, .un, .un, .un, .un, .un, .un, .un, .un, .un, .un, .un, .un, .un], [.cells (145 : Go.TypeId) [.v (.obj 0), .row 3, .row 4, .v I64], .row (3 : Go.TypeId) I64, .row (3 : Go.TypeId) I64, .row (3 : Go.TypeId) I64, .row (4 : Go.TypeId) .bool]⟩
abbrev x16 : List Way := [⟨(.ex 4), ⟨[(3, none), (4, none), (5, none), (6, none)]⟩, ⟨[.un, .un, .un, .box 0 0, .row 1, .v I64, .v I64, .un, .un, .un, .un, .un, .un, .un, .un, .un, .un, .un, .un, .un, .un, .un, .un, .un, .un, .un, .un, .un, .un, .un, .un, .un, .un, .un, .un, .un, .un, .un, .un, .un, .un, .un, .un, .un, .un, .un, .un, .un, .un, .un, .un, .un, .un, .un, .un, .un, .un, .un, .un, .un, .un, .un, .un, .un, .un, .un, .un, .un, .un, .un, .un, .un], [.cells (145 : Go.TypeId) [.v (.obj 0), .row 2, .row 3, .v I64], .row (3 : Go.TypeId) I64, .row (3 : Go.TypeId) I64, .row (4 : Go.TypeId) .bool]⟩⟩]
abbrev V16 : Type := (Int × Int × Int × Int × Unit) × (((Option Gr) × Int × Unit) × (List Int) × (List Int) × (List Int) × (List Bool) × Unit)
abbrev X16 : Type := (Int × Int × Unit) × (((Option Gr) × Int × Unit) × (List Int) × (List Int) × (List Bool) × Unit)
noncomputable def R16 {R : Type} (round5 : Int) (k6 : Int) (t56 : Int) (t57 : Int) (c0x0 : (Option Gr)) (c0x3 : Int) (r1 : List Int) (r2 : List Int) (r3 : List Int) (r4 : List Bool) (k : V16 → Option R) (kx : X16 → Option R) : Option R := (if Decidable.decide (t57 < t56) = Bool.true then (if (0 : Int) ≤ t57 then (if t57 < (↑(List.length r2) : Int) then (if goesP.pre c0x0 r3 r4 c0x3 (List.getD r2 (Int.toNat t57) (0 : Int)) = Bool.true then (if (0 : Int) ≤ List.getD r2 (Int.toNat t57) (0 : Int) then (if List.getD r2 (Int.toNat t57) (0 : Int) < (↑(List.length r1) : Int) then (if Int.toNat (List.getD r2 (Int.toNat t57) (0 : Int)) < List.length r1 then k ((round5, k6, t56, IntKind.wrap .i64 (t57 + (1 : Int)), ()), (((goesP.fn c0x0 r3 r4 c0x3 (List.getD r2 (Int.toNat t57) (0 : Int))).1.1, (goesP.fn c0x0 r3 r4 c0x3 (List.getD r2 (Int.toNat t57) (0 : Int))).1.2.2.2.1, ()), List.set r1 (Int.toNat (List.getD r2 (Int.toNat t57) (0 : Int))) round5, r2, (goesP.fn c0x0 r3 r4 c0x3 (List.getD r2 (Int.toNat t57) (0 : Int))).1.2.1, (goesP.fn c0x0 r3 r4 c0x3 (List.getD r2 (Int.toNat t57) (0 : Int))).1.2.2.1, ()))
 else none)
 else none)
 else none)
 else none)
 else none)
 else none)
 else kx (((round5, k6, ()), ((c0x0, c0x3, ()), r1, r3, r4, ()))))
noncomputable def rd16 : Rd (VO s16) (Xs x16) := fun v k kx => match v with
  | ((round5, k6, t56, t57, _), ((c0x0, c0x3, _), r1, r2, r3, r4, _)) => R16 round5 k6 t56 t57 c0x0 c0x3 r1 r2 r3 r4 k kx
noncomputable def F16 (round5 : Int) (k6 : Int) (t56 : Int) (t57 : Int) (c0x0 : (Option Gr)) (c0x3 : Int) (r1 : List Int) (r2 : List Int) (r3 : List Int) (r4 : List Bool) : Option X16 := finOf rd16 ((round5, k6, t56, t57, ()), ((c0x0, c0x3, ()), r1, r2, r3, r4, ()))
theorem F16_inv {round5 : Int} {k6 : Int} {t56 : Int} {r2 : List Int} (I : Int → (Option Gr) → Int → List Int → List Int → List Bool → Prop) (μ : Int → (Option Gr) → Int → List Int → List Int → List Bool → Nat) (Q : X16 → Prop) (h : ∀ (t57 : Int) (c0x0 : (Option Gr)) (c0x3 : Int) (r1 : List Int) (r3 : List Int) (r4 : List Bool), I t57 c0x0 c0x3 r1 r3 r4 → Led (fun (R : Type) (k : V16 → Option R) (kx : X16 → Option R) => R16 round5 k6 t56 t57 c0x0 c0x3 r1 r2 r3 r4 k kx) (fun v => ∃ (t57' : Int) (c0x0' : (Option Gr)) (c0x3' : Int) (r1' : List Int) (r3' : List Int) (r4' : List Bool), v = ((round5, k6, t56, t57', ()), ((c0x0', c0x3', ()), r1', r2, r3', r4', ())) ∧ I t57' c0x0' c0x3' r1' r3' r4' ∧ μ t57' c0x0' c0x3' r1' r3' r4' < μ t57 c0x0 c0x3 r1 r3 r4) Q) : ∀ (t57 : Int) (c0x0 : (Option Gr)) (c0x3 : Int) (r1 : List Int) (r3 : List Int) (r4 : List Bool), I t57 c0x0 c0x3 r1 r3 r4 → ∃ z, F16 round5 k6 t56 t57 c0x0 c0x3 r1 r2 r3 r4 = some z ∧ Q z := fun t57 c0x0 c0x3 r1 r3 r4 hi => by
  refine finOf_inv (V := V16) (X := X16) (rd := rd16) (fun v => ∃ (t57' : Int) (c0x0' : (Option Gr)) (c0x3' : Int) (r1' : List Int) (r3' : List Int) (r4' : List Bool), v = ((round5, k6, t56, t57', ()), ((c0x0', c0x3', ()), r1', r2, r3', r4', ())) ∧ I t57' c0x0' c0x3' r1' r3' r4') (fun v => match v with
    | ((round5, k6, t56, t57, _), ((c0x0, c0x3, _), r1, r2, r3, r4, _)) => μ t57 c0x0 c0x3 r1 r3 r4) Q (fun v hv => ?_) ((round5, k6, t56, t57, ()), ((c0x0, c0x3, ()), r1, r2, r3, r4, ())) ⟨t57, c0x0, c0x3, r1, r3, r4, rfl, hi⟩
  obtain ⟨t57, c0x0, c0x3, r1, r3, r4, rfl, hi⟩ := hv
  refine led_mono (h t57 c0x0 c0x3 r1 r3 r4 hi) ?_ (fun _ q => q)
  rintro v ⟨t57', c0x0', c0x3', r1', r3', r4', rfl, h1, h2⟩
  exact ⟨⟨t57', c0x0', c0x3', r1', r3', r4', rfl, h1⟩, h2⟩
noncomputable def L16 : Lp := ⟨16, ⟨[(3, none), (4, none), (5, none), (6, none), (55, none), (56, none), (57, none)]⟩, s16, x16, fun v => match v with
  | ((round5, k6, t56, t57, _), ((c0x0, c0x3, _), r1, r2, r3, r4, _)) => F16 round5 k6 t56 t57 c0x0 c0x3 r1 r2 r3 r4⟩
theorem ends16 : Ends L16 rd16 := ends_fin (fun v => by
  obtain ⟨⟨round5, k6, t56, t57, _⟩, ⟨⟨c0x0, c0x3, _⟩, r1, r2, r3, r4, _⟩⟩ := v
  rfl)
abbrev s5 : Shape := ⟨[.un, .un, .un, .box 0 0, .row 1, .v I64, .v I64, .un, .un, .un, .un, .un, .un, .un, .un, .un, .un, .un, .un, .un, .un, .un, .un, .un, .un, .un, .un, .un, .un, .un, .un, .un, .un, .un, .un, .un, .un, .un, .un, .un, .un, .un, .un, .un, .un, .un, .un, .un, .un, .un, .un, .un, .un, .un, .un, .un, .un, .un, .un, .un, .un, .un, .un, .un, .un, .un, .un, .un, .un, .un, .un, .un], [.cells (145 : Go.TypeId) [.v (.obj 0), .row 2, .row 3, .v I64], .row (3 : Go.TypeId) I64, .row (3 : Go.TypeId) I64, .row (4 : Go.TypeId) .bool]⟩
abbrev x5 : List Way := [⟨(.ex 0), ⟨[(4, none)]⟩, ⟨[.un, .un, .un, .un, .row 0, .un, .un, .un, .un, .un, .un, .un, .un, .un, .un, .un, .un, .un, .un, .un, .un, .un, .un, .un, .un, .un, .un, .un, .un, .un, .un, .un, .un, .un, .un, .un, .un, .un, .un, .un, .un, .un, .un, .un, .un, .un, .un, .un, .un, .un, .un, .un, .un, .un, .un, .un, .un, .un, .un, .un, .un, .un, .un, .un, .un, .un, .un, .un, .un, .un, .un, .un], [.row (3 : Go.TypeId) I64]⟩⟩]
abbrev V5 : Type := (Int × Int × Unit) × (((Option Gr) × Int × Unit) × (List Int) × (List Int) × (List Bool) × Unit)
abbrev X5 : Type := (Unit) × ((List Int) × Unit)
noncomputable def R5 {R : Type} (round5 : Int) (k6 : Int) (c0x0 : (Option Gr)) (c0x3 : Int) (r1 : List Int) (r2 : List Int) (r3 : List Bool) (k : V5 → Option R) (kx : X5 → Option R) : Option R := (if Decidable.decide (c0x3 > (0 : Int)) = Bool.true then (match F8 (round5) (k6) ((↑(List.length r3) : Int)) ((0 : Int)) (c0x0) (c0x3) (r1) ([]) (r3) (r2) with
  | some (((round5_1, k6_1, _), ((c0x0_1, c0x3_1, _), r1_1, r2_1, r3_1, r4_1, _))) => (if ((↑(List.length r2_1) : Int) == (0 : Int)) = Bool.true then (if leastP.pre c0x0_1 r3_1 r4_1 c0x3_1 = Bool.true then k ((round5_1, (leastP.fn c0x0_1 r3_1 r4_1 c0x3_1).2.1, ()), (((leastP.fn c0x0_1 r3_1 r4_1 c0x3_1).1.1, (leastP.fn c0x0_1 r3_1 r4_1 c0x3_1).1.2.2.2.1, ()), r1_1, (leastP.fn c0x0_1 r3_1 r4_1 c0x3_1).1.2.1, (leastP.fn c0x0_1 r3_1 r4_1 c0x3_1).1.2.2.1, ()))
 else none)
 else (match F16 (round5_1) (k6_1) ((↑(List.length r2_1) : Int)) ((0 : Int)) (c0x0_1) (c0x3_1) (r1_1) (r2_1) (r3_1) (r4_1) with
  | some (((round5_2, k6_2, _), ((c0x0_2, c0x3_2, _), r1_2, r2_2, r3_2, _))) => k ((IntKind.wrap .i64 (round5_2 + (1 : Int)), k6_2, ()), ((c0x0_2, c0x3_2, ()), r1_2, r2_2, r3_2, ()))
  | none => none))
  | none => none)
 else kx (((()), (r1, ()))))
noncomputable def rd5 : Rd (VO s5) (Xs x5) := fun v k kx => match v with
  | ((round5, k6, _), ((c0x0, c0x3, _), r1, r2, r3, _)) => R5 round5 k6 c0x0 c0x3 r1 r2 r3 k kx
noncomputable def F5 (round5 : Int) (k6 : Int) (c0x0 : (Option Gr)) (c0x3 : Int) (r1 : List Int) (r2 : List Int) (r3 : List Bool) : Option X5 := finOf rd5 ((round5, k6, ()), ((c0x0, c0x3, ()), r1, r2, r3, ()))
theorem F5_inv  (I : Int → Int → (Option Gr) → Int → List Int → List Int → List Bool → Prop) (μ : Int → Int → (Option Gr) → Int → List Int → List Int → List Bool → Nat) (Q : X5 → Prop) (h : ∀ (round5 : Int) (k6 : Int) (c0x0 : (Option Gr)) (c0x3 : Int) (r1 : List Int) (r2 : List Int) (r3 : List Bool), I round5 k6 c0x0 c0x3 r1 r2 r3 → Led (fun (R : Type) (k : V5 → Option R) (kx : X5 → Option R) => R5 round5 k6 c0x0 c0x3 r1 r2 r3 k kx) (fun v => ∃ (round5' : Int) (k6' : Int) (c0x0' : (Option Gr)) (c0x3' : Int) (r1' : List Int) (r2' : List Int) (r3' : List Bool), v = ((round5', k6', ()), ((c0x0', c0x3', ()), r1', r2', r3', ())) ∧ I round5' k6' c0x0' c0x3' r1' r2' r3' ∧ μ round5' k6' c0x0' c0x3' r1' r2' r3' < μ round5 k6 c0x0 c0x3 r1 r2 r3) Q) : ∀ (round5 : Int) (k6 : Int) (c0x0 : (Option Gr)) (c0x3 : Int) (r1 : List Int) (r2 : List Int) (r3 : List Bool), I round5 k6 c0x0 c0x3 r1 r2 r3 → ∃ z, F5 round5 k6 c0x0 c0x3 r1 r2 r3 = some z ∧ Q z := fun round5 k6 c0x0 c0x3 r1 r2 r3 hi => by
  refine finOf_inv (V := V5) (X := X5) (rd := rd5) (fun v => ∃ (round5' : Int) (k6' : Int) (c0x0' : (Option Gr)) (c0x3' : Int) (r1' : List Int) (r2' : List Int) (r3' : List Bool), v = ((round5', k6', ()), ((c0x0', c0x3', ()), r1', r2', r3', ())) ∧ I round5' k6' c0x0' c0x3' r1' r2' r3') (fun v => match v with
    | ((round5, k6, _), ((c0x0, c0x3, _), r1, r2, r3, _)) => μ round5 k6 c0x0 c0x3 r1 r2 r3) Q (fun v hv => ?_) ((round5, k6, ()), ((c0x0, c0x3, ()), r1, r2, r3, ())) ⟨round5, k6, c0x0, c0x3, r1, r2, r3, rfl, hi⟩
  obtain ⟨round5, k6, c0x0, c0x3, r1, r2, r3, rfl, hi⟩ := hv
  refine led_mono (h round5 k6 c0x0 c0x3 r1 r2 r3 hi) ?_ (fun _ q => q)
  rintro v ⟨round5', k6', c0x0', c0x3', r1', r2', r3', rfl, h1, h2⟩
  exact ⟨⟨round5', k6', c0x0', c0x3', r1', r2', r3', rfl, h1⟩, h2⟩
noncomputable def L5 : Lp := ⟨5, ⟨[(3, none), (4, none), (5, none), (6, none)]⟩, s5, x5, fun v => match v with
  | ((round5, k6, _), ((c0x0, c0x3, _), r1, r2, r3, _)) => F5 round5 k6 c0x0 c0x3 r1 r2 r3⟩
theorem ends5 : Ends L5 rd5 := ends_fin (fun v => by
  obtain ⟨⟨round5, k6, _⟩, ⟨⟨c0x0, c0x3, _⟩, r1, r2, r3, _⟩⟩ := v
  rfl)
noncomputable def env : Env := mkEnv tab6 [(93, N.sig), (135, peelP.sig), (136, goesP.sig), (137, leastP.sig)] 0 [] [L8, L16, L5]
theorem round8 : RoundIs env (sub [true, true, true, true, false, true, false, false, true, false, true, false, true, false, false] code) L8 rd8 := fun R v k kx => by kernel_rfl
theorem round16 : RoundIs env (sub [true, true, true, true, false, true, false, false, true, false, true, true, true, false, true, false, false] code) L16 rd16 := fun R v k kx => by kernel_rfl
theorem round5 : RoundIs env (sub [true, true, true, true, false, true, false, false] code) L5 rd5 := fun R v k kx => by kernel_rfl
abbrev D : Type := ((List Int) × Unit)
noncomputable def run' (g0 : (Option Gr)) : Option D := (if peelP.pre g0 = Bool.true then (if Option.isNone (peelP.fn g0).1 = Bool.true then (if N.pre g0 = Bool.true then (if (N.fn g0).1 = (N.fn g0).1 then (if (0 : Int) ≤ (N.fn g0).1 then (if Int.toNat (N.fn g0).1 * (8 : Nat) ≤ (140737488355328 : Nat) then none
 else none)
 else none)
 else none)
 else none)
 else (if N.pre g0 = Bool.true then (if (N.fn g0).1 = (N.fn g0).1 then (if (0 : Int) ≤ (N.fn g0).1 then (if Int.toNat (N.fn g0).1 * (8 : Nat) ≤ (140737488355328 : Nat) then (match F5 ((1 : Int)) ((0 : Int)) ((Option.getD (peelP.fn g0).1 (Option.none, [], [], (0 : Int), Bool.false)).1) ((Option.getD (peelP.fn g0).1 (Option.none, [], [], (0 : Int), Bool.false)).2.2.2.1) (List.replicate (Int.toNat (N.fn g0).1) (0 : Int)) ((Option.getD (peelP.fn g0).1 (Option.none, [], [], (0 : Int), Bool.false)).2.1) ((Option.getD (peelP.fn g0).1 (Option.none, [], [], (0 : Int), Bool.false)).2.2.1) with
  | some ((_, (r0_3, _))) => some (r0_3, ())
  | none => none)
 else none)
 else none)
 else none)
 else none))
 else none)
noncomputable def run (d : Ds (List.map PM.ty ps)) : Option (Ds (muts ps ++ List.map PM.ty rs)) := match d with
  | (g0, _) => run' g0
theorem run_is : ∀ d, runF env 72 code [2] ps rs d = run d := fun d => by kernel_rfl
theorem loops : LoopsOk env code := loopsOk_of (l := [[true, true, true, true, false, true, false, false], [true, true, true, true, false, true, false, false, true, false, true, false, true, false, false], [true, true, true, true, false, true, false, false, true, false, true, true, true, false, true, false, false]]) (by kernel_rfl) (fun p hp => by
  simp only [List.mem_cons, List.not_mem_nil, or_false] at hp
  rcases hp with rfl | rfl | rfl
  · exact loopOk_lp (L := L5) (x := sub [true, true, true, true, false, true, false, false] code) (by kernel_rfl) (by simp [L5]) round5 ends5
  · exact loopOk_lp (L := L8) (x := sub [true, true, true, true, false, true, false, false, true, false, true, false, true, false, false] code) (by kernel_rfl) (by simp [L8]) round8 ends8
  · exact loopOk_lp (L := L16) (x := sub [true, true, true, true, false, true, false, false, true, false, true, true, true, false, true, false, false] code) (by kernel_rfl) (by simp [L16]) round16 ends16
  )
noncomputable def pre (g0 : (Option Gr)) : Bool := (run' g0).isSome
noncomputable def fn (g0 : (Option Gr)) : D := match run' g0 with
  | some x => x
  | none => default
noncomputable def sig : Sig := ⟨ps, rs, fun d => match d with
  | (g0, _) => pre g0, fun d => match d with
  | (g0, _) => fn g0, false⟩
theorem run_fn (g0 : (Option Gr)) (h : pre g0 = true) : run' g0 = some (fn g0) := by
  unfold pre at h
  unfold fn
  cases e : run' g0 with
  | some x => rfl
  | none => rw [e] at h; cases h
theorem is_fn (g0 : (Option Gr)) {x : D} (h : run' g0 = some x) : pre g0 = true ∧ fn g0 = x := by
  unfold pre fn
  rw [h]
  exact ⟨rfl, rfl⟩
theorem sound {ρ : Obs} (hE : EnvOk Go.Proofs.Try.prog ρ env) : Sound Go.Proofs.Try.prog ρ 86 sig := sound_of (fn := Go.Proofs.Try.f86) (c := code) (res := [2]) hE (by kernel_rfl) (by kernel_rfl) (by kernel_rfl) (by kernel_rfl) (by kernel_rfl) loops rfl (show 1 ≤ 72 by decide) (fun d hd => (run_is d).trans (by
  obtain ⟨g0, _⟩ := d
  exact run_fn g0 hd))
theorem enters : Enters Go.Proofs.Try.prog 86 := enters_of (fn := Go.Proofs.Try.f86) (by kernel_rfl) (by kernel_rfl) (by kernel_rfl)
theorem ok {ρ : Obs} (h : ∀ p ∈ ([(93, N.sig), (135, peelP.sig), (136, goesP.sig), (137, leastP.sig)] : List (FuncId × Sig)), Enters Go.Proofs.Try.prog p.1 ∧ Sound Go.Proofs.Try.prog ρ p.1 p.2) : Enters Go.Proofs.Try.prog 86 ∧ Sound Go.Proofs.Try.prog ρ 86 sig := ⟨enters, sound (envOk_of tab6Ok h)⟩
theorem okR : Enters Go.Proofs.Try.prog 86 ∧ Sound Go.Proofs.Try.prog rho 86 sig := ok (fun p hp => by
  simp only [List.mem_cons, List.not_mem_nil, or_false] at hp
  rcases hp with rfl | rfl | rfl | rfl
  · exact N.okR
  · exact peelP.okR
  · exact goesP.okR
  · exact leastP.okR)
end OnionP
namespace placesP
abbrev ps : List PM := [.val (.obj 0), .val (.list I64)]
abbrev rs : List PM := [.own 3 I64, .val I64]
noncomputable abbrev code : Code := (Go.Proofs.Try.f143.body.getD .skip)
abbrev s6 : Shape := ⟨[.un, .v (.list I64), .un, .un, .un, .un, .v I64, .row 0, .un, .un, .un, .un, .un, .un, .un, .un, .un, .un, .un, .un, .v I64, .v I64, .un, .un, .un, .un, .un, .un, .un, .un, .un, .un, .un, .un, .un, .un, .un, .un, .un, .un, .un, .un, .un, .un, .un, .un, .un, .un, .un, .un, .un, .un, .un, .un, .un], [.row (3 : Go.TypeId) I64]⟩
abbrev x6 : List Way := [⟨(.ex 0), ⟨[(1, none), (6, none), (7, none)]⟩, ⟨[.un, .v (.list I64), .un, .un, .un, .un, .v I64, .row 0, .un, .un, .un, .un, .un, .un, .un, .un, .un, .un, .un, .un, .un, .un, .un, .un, .un, .un, .un, .un, .un, .un, .un, .un, .un, .un, .un, .un, .un, .un, .un, .un, .un, .un, .un, .un, .un, .un, .un, .un, .un, .un, .un, .un, .un, .un, .un], [.row (3 : Go.TypeId) I64]⟩⟩]
abbrev V6 : Type := ((List Int) × Int × Int × Int × Unit) × ((List Int) × Unit)
abbrev X6 : Type := ((List Int) × Int × Unit) × ((List Int) × Unit)
noncomputable def R6 {R : Type} (order1 : (List Int)) (n6 : Int) (t20 : Int) (t21 : Int) (r0 : List Int) (k : V6 → Option R) (kx : X6 → Option R) : Option R := (if Decidable.decide (t21 < t20) = Bool.true then (if (0 : Int) ≤ t21 then (if t21 < (↑(List.length r0) : Int) then (if Int.toNat t21 < List.length r0 then k ((order1, n6, t20, IntKind.wrap .i64 (t21 + (1 : Int)), ()), (List.set r0 (Int.toNat t21) (-1 : Int), ()))
 else none)
 else none)
 else none)
 else kx (((order1, n6, ()), (r0, ()))))
noncomputable def rd6 : Rd (VO s6) (Xs x6) := fun v k kx => match v with
  | ((order1, n6, t20, t21, _), (r0, _)) => R6 order1 n6 t20 t21 r0 k kx
noncomputable def F6 (order1 : (List Int)) (n6 : Int) (t20 : Int) (t21 : Int) (r0 : List Int) : Option X6 := finOf rd6 ((order1, n6, t20, t21, ()), (r0, ()))
theorem F6_inv {order1 : (List Int)} {n6 : Int} {t20 : Int} (I : Int → List Int → Prop) (μ : Int → List Int → Nat) (Q : X6 → Prop) (h : ∀ (t21 : Int) (r0 : List Int), I t21 r0 → Led (fun (R : Type) (k : V6 → Option R) (kx : X6 → Option R) => R6 order1 n6 t20 t21 r0 k kx) (fun v => ∃ (t21' : Int) (r0' : List Int), v = ((order1, n6, t20, t21', ()), (r0', ())) ∧ I t21' r0' ∧ μ t21' r0' < μ t21 r0) Q) : ∀ (t21 : Int) (r0 : List Int), I t21 r0 → ∃ z, F6 order1 n6 t20 t21 r0 = some z ∧ Q z := fun t21 r0 hi => by
  refine finOf_inv (V := V6) (X := X6) (rd := rd6) (fun v => ∃ (t21' : Int) (r0' : List Int), v = ((order1, n6, t20, t21', ()), (r0', ())) ∧ I t21' r0') (fun v => match v with
    | ((order1, n6, t20, t21, _), (r0, _)) => μ t21 r0) Q (fun v hv => ?_) ((order1, n6, t20, t21, ()), (r0, ())) ⟨t21, r0, rfl, hi⟩
  obtain ⟨t21, r0, rfl, hi⟩ := hv
  refine led_mono (h t21 r0 hi) ?_ (fun _ q => q)
  rintro v ⟨t21', r0', rfl, h1, h2⟩
  exact ⟨⟨t21', r0', rfl, h1⟩, h2⟩
noncomputable def L6 : Lp := ⟨6, ⟨[(1, none), (6, none), (7, none), (20, none), (21, none)]⟩, s6, x6, fun v => match v with
  | ((order1, n6, t20, t21, _), (r0, _)) => F6 order1 n6 t20 t21 r0⟩
theorem ends6 : Ends L6 rd6 := ends_fin (fun v => by
  obtain ⟨⟨order1, n6, t20, t21, _⟩, ⟨r0, _⟩⟩ := v
  rfl)
abbrev s11 : Shape := ⟨[.un, .un, .un, .un, .un, .un, .v I64, .row 0, .un, .un, .un, .un, .un, .un, .un, .un, .un, .un, .un, .un, .un, .un, .un, .un, .un, .un, .un, .un, .v (.list I64), .v I64, .v I64, .un, .un, .un, .un, .un, .un, .un, .un, .un, .un, .un, .un, .un, .un, .un, .un, .un, .un, .un, .un, .un, .un, .un, .un], [.row (3 : Go.TypeId) I64]⟩
abbrev x11 : List Way := [⟨.rt, ⟨[(4, none), (5, none)]⟩, ⟨[.un, .un, .un, .un, .nls, .v I64, .un, .un, .un, .un, .un, .un, .un, .un, .un, .un, .un, .un, .un, .un, .un, .un, .un, .un, .un, .un, .un, .un, .un, .un, .un, .un, .un, .un, .un, .un, .un, .un, .un, .un, .un, .un, .un, .un, .un, .un, .un, .un, .un, .un, .un, .un, .un, .un, .un], []⟩⟩, ⟨(.ex 2), ⟨[(7, none)]⟩, ⟨[.un, .un, .un, .un, .un, .un, .un, .row 0, .un, .un, .un, .un, .un, .un, .un, .un, .un, .un, .un, .un, .un, .un, .un, .un, .un, .un, .un, .un, .un, .un, .un, .un, .un, .un, .un, .un, .un, .un, .un, .un, .un, .un, .un, .un, .un, .un, .un, .un, .un, .un, .un, .un, .un, .un, .un], [.row (3 : Go.TypeId) I64]⟩⟩]
abbrev V11 : Type := (Int × (List Int) × Int × Int × Unit) × ((List Int) × Unit)
abbrev X11 : Type := ((Int × Unit) × (Unit)) ⊕ ((Unit) × ((List Int) × Unit))
noncomputable def R11 {R : Type} (n6 : Int) (t28 : (List Int)) (t29 : Int) (t30 : Int) (r0 : List Int) (k : V11 → Option R) (kx : X11 → Option R) : Option R := (if Decidable.decide (t30 < t29) = Bool.true then (if (0 : Int) ≤ t30 then (if t30 < (↑(List.length t28) : Int) then (if Decidable.decide (List.getD t28 (Int.toNat t30) (0 : Int) < (0 : Int)) = Bool.false then (if Decidable.decide (List.getD t28 (Int.toNat t30) (0 : Int) ≥ n6) = Bool.false then (if (0 : Int) ≤ List.getD t28 (Int.toNat t30) (0 : Int) then (if List.getD t28 (Int.toNat t30) (0 : Int) < (↑(List.length r0) : Int) then (if Decidable.decide (List.getD r0 (Int.toNat (List.getD t28 (Int.toNat t30) (0 : Int))) (0 : Int) ≥ (0 : Int)) = Bool.true then kx (Sum.inl <| (((60 : Int), ()), (())))
 else (if (0 : Int) ≤ List.getD t28 (Int.toNat t30) (0 : Int) then (if List.getD t28 (Int.toNat t30) (0 : Int) < (↑(List.length r0) : Int) then (if Int.toNat (List.getD t28 (Int.toNat t30) (0 : Int)) < List.length r0 then k ((n6, t28, t29, IntKind.wrap .i64 (t30 + (1 : Int)), ()), (List.set r0 (Int.toNat (List.getD t28 (Int.toNat t30) (0 : Int))) t30, ()))
 else none)
 else none)
 else none))
 else none)
 else none)
 else kx (Sum.inl <| (((60 : Int), ()), (()))))
 else kx (Sum.inl <| (((60 : Int), ()), (()))))
 else none)
 else none)
 else kx (Sum.inr <| ((()), (r0, ()))))
noncomputable def rd11 : Rd (VO s11) (Xs x11) := fun v k kx => match v with
  | ((n6, t28, t29, t30, _), (r0, _)) => R11 n6 t28 t29 t30 r0 k kx
noncomputable def F11 (n6 : Int) (t28 : (List Int)) (t29 : Int) (t30 : Int) (r0 : List Int) : Option X11 := finOf rd11 ((n6, t28, t29, t30, ()), (r0, ()))
theorem F11_inv {n6 : Int} {t28 : (List Int)} {t29 : Int} (I : Int → List Int → Prop) (μ : Int → List Int → Nat) (Q : X11 → Prop) (h : ∀ (t30 : Int) (r0 : List Int), I t30 r0 → Led (fun (R : Type) (k : V11 → Option R) (kx : X11 → Option R) => R11 n6 t28 t29 t30 r0 k kx) (fun v => ∃ (t30' : Int) (r0' : List Int), v = ((n6, t28, t29, t30', ()), (r0', ())) ∧ I t30' r0' ∧ μ t30' r0' < μ t30 r0) Q) : ∀ (t30 : Int) (r0 : List Int), I t30 r0 → ∃ z, F11 n6 t28 t29 t30 r0 = some z ∧ Q z := fun t30 r0 hi => by
  refine finOf_inv (V := V11) (X := X11) (rd := rd11) (fun v => ∃ (t30' : Int) (r0' : List Int), v = ((n6, t28, t29, t30', ()), (r0', ())) ∧ I t30' r0') (fun v => match v with
    | ((n6, t28, t29, t30, _), (r0, _)) => μ t30 r0) Q (fun v hv => ?_) ((n6, t28, t29, t30, ()), (r0, ())) ⟨t30, r0, rfl, hi⟩
  obtain ⟨t30, r0, rfl, hi⟩ := hv
  refine led_mono (h t30 r0 hi) ?_ (fun _ q => q)
  rintro v ⟨t30', r0', rfl, h1, h2⟩
  exact ⟨⟨t30', r0', rfl, h1⟩, h2⟩
noncomputable def L11 : Lp := ⟨11, ⟨[(6, none), (7, none), (28, none), (29, none), (30, none)]⟩, s11, x11, fun v => match v with
  | ((n6, t28, t29, t30, _), (r0, _)) => F11 n6 t28 t29 t30 r0⟩
theorem ends11 : Ends L11 rd11 := ends_fin (fun v => by
  obtain ⟨⟨n6, t28, t29, t30, _⟩, ⟨r0, _⟩⟩ := v
  rfl)
noncomputable def env : Env := mkEnv tab6 [(93, N.sig)] 0 [] [L6, L11]
theorem round6 : RoundIs env (sub [true, true, true, true, false, true, false, false] code) L6 rd6 := fun R v k kx => by kernel_rfl
theorem round11 : RoundIs env (sub [true, true, true, true, true, false, true, false, false] code) L11 rd11 := fun R v k kx => by kernel_rfl
abbrev D : Type := ((List Int) × Int × Unit)
noncomputable def run' (g0 : (Option Gr)) (order1 : (List Int)) : Option D := (if N.pre g0 = Bool.true then (if ((↑(List.length order1) : Int) != (N.fn g0).1) = Bool.true then some ([], (60 : Int), ())
 else (if (N.fn g0).1 = (N.fn g0).1 then (if (0 : Int) ≤ (N.fn g0).1 then (if Int.toNat (N.fn g0).1 * (8 : Nat) ≤ (140737488355328 : Nat) then (match F6 (order1) ((N.fn g0).1) ((↑(List.length (List.replicate (Int.toNat (N.fn g0).1) (0 : Int))) : Int)) ((0 : Int)) (List.replicate (Int.toNat (N.fn g0).1) (0 : Int)) with
  | some (((order1_1, n6_1, _), (r0_1, _))) => (match F11 (n6_1) (order1_1) ((↑(List.length order1_1) : Int)) ((0 : Int)) (r0_1) with
  | some (Sum.inl <| ((t5_2, _), _)) => some ([], t5_2, ())
  | some (Sum.inr <| (_, (r0_3, _))) => some (r0_3, (0 : Int), ())
  | none => none)
  | none => none)
 else none)
 else none)
 else none))
 else none)
noncomputable def run (d : Ds (List.map PM.ty ps)) : Option (Ds (muts ps ++ List.map PM.ty rs)) := match d with
  | (g0, order1, _) => run' g0 order1
theorem run_is : ∀ d, runF env 55 code [4, 5] ps rs d = run d := fun d => by kernel_rfl
theorem loops : LoopsOk env code := loopsOk_of (l := [[true, true, true, true, false, true, false, false], [true, true, true, true, true, false, true, false, false]]) (by kernel_rfl) (fun p hp => by
  simp only [List.mem_cons, List.not_mem_nil, or_false] at hp
  rcases hp with rfl | rfl
  · exact loopOk_lp (L := L6) (x := sub [true, true, true, true, false, true, false, false] code) (by kernel_rfl) (by simp [L6]) round6 ends6
  · exact loopOk_lp (L := L11) (x := sub [true, true, true, true, true, false, true, false, false] code) (by kernel_rfl) (by simp [L11]) round11 ends11
  )
noncomputable def pre (g0 : (Option Gr)) (order1 : (List Int)) : Bool := (run' g0 order1).isSome
noncomputable def fn (g0 : (Option Gr)) (order1 : (List Int)) : D := match run' g0 order1 with
  | some x => x
  | none => default
noncomputable def sig : Sig := ⟨ps, rs, fun d => match d with
  | (g0, order1, _) => pre g0 order1, fun d => match d with
  | (g0, order1, _) => fn g0 order1, false⟩
theorem run_fn (g0 : (Option Gr)) (order1 : (List Int)) (h : pre g0 order1 = true) : run' g0 order1 = some (fn g0 order1) := by
  unfold pre at h
  unfold fn
  cases e : run' g0 order1 with
  | some x => rfl
  | none => rw [e] at h; cases h
theorem is_fn (g0 : (Option Gr)) (order1 : (List Int)) {x : D} (h : run' g0 order1 = some x) : pre g0 order1 = true ∧ fn g0 order1 = x := by
  unfold pre fn
  rw [h]
  exact ⟨rfl, rfl⟩
theorem sound {ρ : Obs} (hE : EnvOk Go.Proofs.Try.prog ρ env) : Sound Go.Proofs.Try.prog ρ 143 sig := sound_of (fn := Go.Proofs.Try.f143) (c := code) (res := [4, 5]) hE (by kernel_rfl) (by kernel_rfl) (by kernel_rfl) (by kernel_rfl) (by kernel_rfl) loops rfl (show 2 ≤ 55 by decide) (fun d hd => (run_is d).trans (by
  obtain ⟨g0, order1, _⟩ := d
  exact run_fn g0 order1 hd))
theorem enters : Enters Go.Proofs.Try.prog 143 := enters_of (fn := Go.Proofs.Try.f143) (by kernel_rfl) (by kernel_rfl) (by kernel_rfl)
theorem ok {ρ : Obs} (h : ∀ p ∈ ([(93, N.sig)] : List (FuncId × Sig)), Enters Go.Proofs.Try.prog p.1 ∧ Sound Go.Proofs.Try.prog ρ p.1 p.2) : Enters Go.Proofs.Try.prog 143 ∧ Sound Go.Proofs.Try.prog ρ 143 sig := ⟨enters, sound (envOk_of tab6Ok h)⟩
theorem okR : Enters Go.Proofs.Try.prog 143 ∧ Sound Go.Proofs.Try.prog rho 143 sig := ok (fun p hp => by
  simp only [List.mem_cons, List.not_mem_nil, or_false] at hp
  rcases hp with rfl
  · exact N.okR)
end placesP
namespace ShellsP
abbrev ps : List PM := [.val (.obj 0)]
abbrev rs : List PM := [.own 149 (.pair I64 (.pair I64 I64))]
noncomputable abbrev code : Code := (Go.Proofs.Try.f89.body.getD .skip)
abbrev s4 : Shape := ⟨[.v (.obj 0), .un, .un, .row 0, .v I64, .un, .un, .un, .un, .un, .un, .un, .un, .un, .un, .un, .row 0, .v I64, .v I64, .un, .un, .un, .un, .un, .un, .un, .un, .un, .un, .un, .un, .un, .un, .un, .un, .un, .un, .un, .un, .un, .un, .un, .un, .un, .un, .un, .un, .un, .un, .un, .un, .un, .un, .un, .un, .un, .un, .un, .un, .un, .un, .un, .un, .un, .un, .un, .un, .un, .un, .un, .un, .un, .un, .un, .un, .un, .un, .un, .un, .un, .un, .un, .un, .un, .un, .un, .un, .un, .un, .un, .un, .un, .un, .un, .un, .un, .un, .un, .un, .un, .un, .un], [.row (3 : Go.TypeId) I64]⟩
abbrev x4 : List Way := [⟨(.ex 0), ⟨[(0, none), (3, none), (4, none)]⟩, ⟨[.v (.obj 0), .un, .un, .row 0, .v I64, .un, .un, .un, .un, .un, .un, .un, .un, .un, .un, .un, .un, .un, .un, .un, .un, .un, .un, .un, .un, .un, .un, .un, .un, .un, .un, .un, .un, .un, .un, .un, .un, .un, .un, .un, .un, .un, .un, .un, .un, .un, .un, .un, .un, .un, .un, .un, .un, .un, .un, .un, .un, .un, .un, .un, .un, .un, .un, .un, .un, .un, .un, .un, .un, .un, .un, .un, .un, .un, .un, .un, .un, .un, .un, .un, .un, .un, .un, .un, .un, .un, .un, .un, .un, .un, .un, .un, .un, .un, .un, .un, .un, .un, .un, .un, .un, .un], [.row (3 : Go.TypeId) I64]⟩⟩]
abbrev V4 : Type := ((Option Gr) × Int × Int × Int × Unit) × ((List Int) × Unit)
abbrev X4 : Type := ((Option Gr) × Int × Unit) × ((List Int) × Unit)
noncomputable def R4 {R : Type} (g0 : (Option Gr)) (top4 : Int) (t17 : Int) (t18 : Int) (r0 : List Int) (k : V4 → Option R) (kx : X4 → Option R) : Option R := (if Decidable.decide (t18 < t17) = Bool.true then (if (0 : Int) ≤ t18 then (if t18 < (↑(List.length r0) : Int) then k ((g0, if List.getD r0 (Int.toNat t18) (0 : Int) > top4 then List.getD r0 (Int.toNat t18) (0 : Int) else top4, t17, IntKind.wrap .i64 (t18 + (1 : Int)), ()), (r0, ()))
 else none)
 else none)
 else kx (((g0, top4, ()), (r0, ()))))
noncomputable def rd4 : Rd (VO s4) (Xs x4) := fun v k kx => match v with
  | ((g0, top4, t17, t18, _), (r0, _)) => R4 g0 top4 t17 t18 r0 k kx
noncomputable def F4 (g0 : (Option Gr)) (top4 : Int) (t17 : Int) (t18 : Int) (r0 : List Int) : Option X4 := finOf rd4 ((g0, top4, t17, t18, ()), (r0, ()))
theorem F4_inv {g0 : (Option Gr)} {t17 : Int} {r0 : List Int} (I : Int → Int → Prop) (μ : Int → Int → Nat) (Q : X4 → Prop) (h : ∀ (top4 : Int) (t18 : Int), I top4 t18 → Led (fun (R : Type) (k : V4 → Option R) (kx : X4 → Option R) => R4 g0 top4 t17 t18 r0 k kx) (fun v => ∃ (top4' : Int) (t18' : Int), v = ((g0, top4', t17, t18', ()), (r0, ())) ∧ I top4' t18' ∧ μ top4' t18' < μ top4 t18) Q) : ∀ (top4 : Int) (t18 : Int), I top4 t18 → ∃ z, F4 g0 top4 t17 t18 r0 = some z ∧ Q z := fun top4 t18 hi => by
  refine finOf_inv (V := V4) (X := X4) (rd := rd4) (fun v => ∃ (top4' : Int) (t18' : Int), v = ((g0, top4', t17, t18', ()), (r0, ())) ∧ I top4' t18') (fun v => match v with
    | ((g0, top4, t17, t18, _), (r0, _)) => μ top4 t18) Q (fun v hv => ?_) ((g0, top4, t17, t18, ()), (r0, ())) ⟨top4, t18, rfl, hi⟩
  obtain ⟨top4, t18, rfl, hi⟩ := hv
  refine led_mono (h top4 t18 hi) ?_ (fun _ q => q)
  rintro v ⟨top4', t18', rfl, h1, h2⟩
  exact ⟨⟨top4', t18', rfl, h1⟩, h2⟩
noncomputable def L4 : Lp := ⟨4, ⟨[(0, none), (3, none), (4, none), (16, none), (17, none), (18, none)]⟩, s4, x4, fun v => match v with
  | ((g0, top4, t17, t18, _), (r0, _)) => F4 g0 top4 t17 t18 r0⟩
theorem ends4 : Ends L4 rd4 := ends_fin (fun v => by
  obtain ⟨⟨g0, top4, t17, t18, _⟩, ⟨r0, _⟩⟩ := v
  rfl)
abbrev s10 : Shape := ⟨[.v (.obj 0), .un, .un, .row 0, .v I64, .un, .un, .row 1, .un, .un, .un, .un, .un, .un, .un, .un, .un, .un, .un, .un, .un, .un, .un, .un, .un, .un, .un, .un, .un, .un, .v I64, .v I64, .un, .un, .un, .un, .un, .un, .un, .un, .un, .un, .un, .un, .un, .un, .un, .un, .un, .un, .un, .un, .un, .un, .un, .un, .un, .un, .un, .un, .un, .un, .un, .un, .un, .un, .un, .un, .un, .un, .un, .un, .un, .un, .un, .un, .un, .un, .un, .un, .un, .un, .un, .un, .un, .un, .un, .un, .un, .un, .un, .un, .un, .un, .un, .un, .un, .un, .un, .un, .un, .un], [.row (3 : Go.TypeId) I64, .row (149 : Go.TypeId) (.pair I64 (.pair I64 I64))]⟩
abbrev x10 : List Way := [⟨(.ex 2), ⟨[(0, none), (3, none), (4, none), (7, none)]⟩, ⟨[.v (.obj 0), .un, .un, .row 0, .v I64, .un, .un, .row 1, .un, .un, .un, .un, .un, .un, .un, .un, .un, .un, .un, .un, .un, .un, .un, .un, .un, .un, .un, .un, .un, .un, .un, .un, .un, .un, .un, .un, .un, .un, .un, .un, .un, .un, .un, .un, .un, .un, .un, .un, .un, .un, .un, .un, .un, .un, .un, .un, .un, .un, .un, .un, .un, .un, .un, .un, .un, .un, .un, .un, .un, .un, .un, .un, .un, .un, .un, .un, .un, .un, .un, .un, .un, .un, .un, .un, .un, .un, .un, .un, .un, .un, .un, .un, .un, .un, .un, .un, .un, .un, .un, .un, .un, .un], [.row (3 : Go.TypeId) I64, .row (149 : Go.TypeId) (.pair I64 (.pair I64 I64))]⟩⟩]
abbrev V10 : Type := ((Option Gr) × Int × Int × Int × Unit) × ((List Int) × (List (Int × (Int × Int))) × Unit)
abbrev X10 : Type := ((Option Gr) × Int × Unit) × ((List Int) × (List (Int × (Int × Int))) × Unit)
noncomputable def R10 {R : Type} (g0 : (Option Gr)) (top4 : Int) (t30 : Int) (t31 : Int) (r0 : List Int) (r1 : List (Int × (Int × Int))) (k : V10 → Option R) (kx : X10 → Option R) : Option R := (if Decidable.decide (t31 < t30) = Bool.true then (if (0 : Int) ≤ t31 then (if t31 < (↑(List.length r1) : Int) then (if Int.toNat t31 < List.length r1 then k ((g0, top4, t30, IntKind.wrap .i64 (t31 + (1 : Int)), ()), (r0, List.set r1 (Int.toNat t31) (t31, (List.getD r1 (Int.toNat t31) ((0 : Int), (0 : Int), (0 : Int))).2), ()))
 else none)
 else none)
 else none)
 else kx (((g0, top4, ()), (r0, r1, ()))))
noncomputable def rd10 : Rd (VO s10) (Xs x10) := fun v k kx => match v with
  | ((g0, top4, t30, t31, _), (r0, r1, _)) => R10 g0 top4 t30 t31 r0 r1 k kx
noncomputable def F10 (g0 : (Option Gr)) (top4 : Int) (t30 : Int) (t31 : Int) (r0 : List Int) (r1 : List (Int × (Int × Int))) : Option X10 := finOf rd10 ((g0, top4, t30, t31, ()), (r0, r1, ()))
theorem F10_inv {g0 : (Option Gr)} {top4 : Int} {t30 : Int} {r0 : List Int} (I : Int → List (Int × (Int × Int)) → Prop) (μ : Int → List (Int × (Int × Int)) → Nat) (Q : X10 → Prop) (h : ∀ (t31 : Int) (r1 : List (Int × (Int × Int))), I t31 r1 → Led (fun (R : Type) (k : V10 → Option R) (kx : X10 → Option R) => R10 g0 top4 t30 t31 r0 r1 k kx) (fun v => ∃ (t31' : Int) (r1' : List (Int × (Int × Int))), v = ((g0, top4, t30, t31', ()), (r0, r1', ())) ∧ I t31' r1' ∧ μ t31' r1' < μ t31 r1) Q) : ∀ (t31 : Int) (r1 : List (Int × (Int × Int))), I t31 r1 → ∃ z, F10 g0 top4 t30 t31 r0 r1 = some z ∧ Q z := fun t31 r1 hi => by
  refine finOf_inv (V := V10) (X := X10) (rd := rd10) (fun v => ∃ (t31' : Int) (r1' : List (Int × (Int × Int))), v = ((g0, top4, t30, t31', ()), (r0, r1', ())) ∧ I t31' r1') (fun v => match v with
    | ((g0, top4, t30, t31, _), (r0, r1, _)) => μ t31 r1) Q (fun v hv => ?_) ((g0, top4, t30, t31, ()), (r0, r1, ())) ⟨t31, r1, rfl, hi⟩
  obtain ⟨t31, r1, rfl, hi⟩ := hv
  refine led_mono (h t31 r1 hi) ?_ (fun _ q => q)
  rintro v ⟨t31', r1', rfl, h1, h2⟩
  exact ⟨⟨t31', r1', rfl, h1⟩, h2⟩
noncomputable def L10 : Lp := ⟨10, ⟨[(0, none), (3, none), (4, none), (7, none), (30, none), (31, none)]⟩, s10, x10, fun v => match v with
  | ((g0, top4, t30, t31, _), (r0, r1, _)) => F10 g0 top4 t30 t31 r0 r1⟩
theorem ends10 : Ends L10 rd10 := ends_fin (fun v => by
  obtain ⟨⟨g0, top4, t30, t31, _⟩, ⟨r0, r1, _⟩⟩ := v
  rfl)
abbrev s15 : Shape := ⟨[.v (.obj 0), .un, .un, .row 0, .v I64, .un, .un, .row 1, .un, .un, .un, .un, .un, .un, .un, .un, .un, .un, .un, .un, .un, .un, .un, .un, .un, .un, .un, .un, .un, .un, .un, .un, .un, .un, .un, .un, .un, .un, .un, .un, .row 0, .v I64, .v I64, .un, .un, .un, .un, .un, .un, .un, .un, .un, .un, .un, .un, .un, .un, .un, .un, .un, .un, .un, .un, .un, .un, .un, .un, .un, .un, .un, .un, .un, .un, .un, .un, .un, .un, .un, .un, .un, .un, .un, .un, .un, .un, .un, .un, .un, .un, .un, .un, .un, .un, .un, .un, .un, .un, .un, .un, .un, .un, .un], [.row (3 : Go.TypeId) I64, .row (149 : Go.TypeId) (.pair I64 (.pair I64 I64))]⟩
abbrev x15 : List Way := [⟨(.ex 4), ⟨[(0, none), (3, none), (4, none), (7, none)]⟩, ⟨[.v (.obj 0), .un, .un, .row 0, .v I64, .un, .un, .row 1, .un, .un, .un, .un, .un, .un, .un, .un, .un, .un, .un, .un, .un, .un, .un, .un, .un, .un, .un, .un, .un, .un, .un, .un, .un, .un, .un, .un, .un, .un, .un, .un, .un, .un, .un, .un, .un, .un, .un, .un, .un, .un, .un, .un, .un, .un, .un, .un, .un, .un, .un, .un, .un, .un, .un, .un, .un, .un, .un, .un, .un, .un, .un, .un, .un, .un, .un, .un, .un, .un, .un, .un, .un, .un, .un, .un, .un, .un, .un, .un, .un, .un, .un, .un, .un, .un, .un, .un, .un, .un, .un, .un, .un, .un], [.row (3 : Go.TypeId) I64, .row (149 : Go.TypeId) (.pair I64 (.pair I64 I64))]⟩⟩]
abbrev V15 : Type := ((Option Gr) × Int × Int × Int × Unit) × ((List Int) × (List (Int × (Int × Int))) × Unit)
abbrev X15 : Type := ((Option Gr) × Int × Unit) × ((List Int) × (List (Int × (Int × Int))) × Unit)
noncomputable def R15 {R : Type} (g0 : (Option Gr)) (top4 : Int) (t41 : Int) (t42 : Int) (r0 : List Int) (r1 : List (Int × (Int × Int))) (k : V15 → Option R) (kx : X15 → Option R) : Option R := (if Decidable.decide (t42 < t41) = Bool.true then (if (0 : Int) ≤ t42 then (if t42 < (↑(List.length r0) : Int) then (if (0 : Int) ≤ List.getD r0 (Int.toNat t42) (0 : Int) then (if List.getD r0 (Int.toNat t42) (0 : Int) < (↑(List.length r1) : Int) then (if (0 : Int) ≤ List.getD r0 (Int.toNat t42) (0 : Int) then (if List.getD r0 (Int.toNat t42) (0 : Int) < (↑(List.length r1) : Int) then (if Int.toNat (List.getD r0 (Int.toNat t42) (0 : Int)) < List.length r1 then k ((g0, top4, t41, IntKind.wrap .i64 (t42 + (1 : Int)), ()), (r0, List.set r1 (Int.toNat (List.getD r0 (Int.toNat t42) (0 : Int))) ((List.getD r1 (Int.toNat (List.getD r0 (Int.toNat t42) (0 : Int))) ((0 : Int), (0 : Int), (0 : Int))).1, IntKind.wrap .i64 ((List.getD r1 (Int.toNat (List.getD r0 (Int.toNat t42) (0 : Int))) ((0 : Int), (0 : Int), (0 : Int))).2.1 + (1 : Int)), (List.getD r1 (Int.toNat (List.getD r0 (Int.toNat t42) (0 : Int))) ((0 : Int), (0 : Int), (0 : Int))).2.2), ()))
 else none)
 else none)
 else none)
 else none)
 else none)
 else none)
 else none)
 else kx (((g0, top4, ()), (r0, r1, ()))))
noncomputable def rd15 : Rd (VO s15) (Xs x15) := fun v k kx => match v with
  | ((g0, top4, t41, t42, _), (r0, r1, _)) => R15 g0 top4 t41 t42 r0 r1 k kx
noncomputable def F15 (g0 : (Option Gr)) (top4 : Int) (t41 : Int) (t42 : Int) (r0 : List Int) (r1 : List (Int × (Int × Int))) : Option X15 := finOf rd15 ((g0, top4, t41, t42, ()), (r0, r1, ()))
theorem F15_inv {g0 : (Option Gr)} {top4 : Int} {t41 : Int} {r0 : List Int} (I : Int → List (Int × (Int × Int)) → Prop) (μ : Int → List (Int × (Int × Int)) → Nat) (Q : X15 → Prop) (h : ∀ (t42 : Int) (r1 : List (Int × (Int × Int))), I t42 r1 → Led (fun (R : Type) (k : V15 → Option R) (kx : X15 → Option R) => R15 g0 top4 t41 t42 r0 r1 k kx) (fun v => ∃ (t42' : Int) (r1' : List (Int × (Int × Int))), v = ((g0, top4, t41, t42', ()), (r0, r1', ())) ∧ I t42' r1' ∧ μ t42' r1' < μ t42 r1) Q) : ∀ (t42 : Int) (r1 : List (Int × (Int × Int))), I t42 r1 → ∃ z, F15 g0 top4 t41 t42 r0 r1 = some z ∧ Q z := fun t42 r1 hi => by
  refine finOf_inv (V := V15) (X := X15) (rd := rd15) (fun v => ∃ (t42' : Int) (r1' : List (Int × (Int × Int))), v = ((g0, top4, t41, t42', ()), (r0, r1', ())) ∧ I t42' r1') (fun v => match v with
    | ((g0, top4, t41, t42, _), (r0, r1, _)) => μ t42 r1) Q (fun v hv => ?_) ((g0, top4, t41, t42, ()), (r0, r1, ())) ⟨t42, r1, rfl, hi⟩
  obtain ⟨t42, r1, rfl, hi⟩ := hv
  refine led_mono (h t42 r1 hi) ?_ (fun _ q => q)
  rintro v ⟨t42', r1', rfl, h1, h2⟩
  exact ⟨⟨t42', r1', rfl, h1⟩, h2⟩
noncomputable def L15 : Lp := ⟨15, ⟨[(0, none), (3, none), (4, none), (7, none), (40, none), (41, none), (42, none)]⟩, s15, x15, fun v => match v with
  | ((g0, top4, t41, t42, _), (r0, r1, _)) => F15 g0 top4 t41 t42 r0 r1⟩
theorem ends15 : Ends L15 rd15 := ends_fin (fun v => by
  obtain ⟨⟨g0, top4, t41, t42, _⟩, ⟨r0, r1, _⟩⟩ := v
  rfl)
abbrev s20 : Shape := ⟨[.un, .un, .un, .row 0, .v I64, .un, .un, .row 1, .un, .un, .un, .un, .un, .un, .un, .un, .un, .un, .un, .un, .un, .un, .un, .un, .un, .un, .un, .un, .un, .un, .un, .un, .un, .un, .un, .un, .un, .un, .un, .un, .un, .un, .un, .un, .un, .un, .un, .un, .un, .un, .un, .un, .un, .un, .un, .un, .v (.list (.pair I64 I64)), .v I64, .v I64, .un, .un, .un, .un, .un, .un, .un, .un, .un, .un, .un, .un, .un, .un, .un, .un, .un, .un, .un, .un, .un, .un, .un, .un, .un, .un, .un, .un, .un, .un, .un, .un, .un, .un, .un, .un, .un, .un, .un, .un, .un, .un, .un], [.row (3 : Go.TypeId) I64, .row (149 : Go.TypeId) (.pair I64 (.pair I64 I64))]⟩
abbrev x20 : List Way := [⟨(.ex 6), ⟨[(4, none), (7, none)]⟩, ⟨[.un, .un, .un, .un, .v I64, .un, .un, .row 0, .un, .un, .un, .un, .un, .un, .un, .un, .un, .un, .un, .un, .un, .un, .un, .un, .un, .un, .un, .un, .un, .un, .un, .un, .un, .un, .un, .un, .un, .un, .un, .un, .un, .un, .un, .un, .un, .un, .un, .un, .un, .un, .un, .un, .un, .un, .un, .un, .un, .un, .un, .un, .un, .un, .un, .un, .un, .un, .un, .un, .un, .un, .un, .un, .un, .un, .un, .un, .un, .un, .un, .un, .un, .un, .un, .un, .un, .un, .un, .un, .un, .un, .un, .un, .un, .un, .un, .un, .un, .un, .un, .un, .un, .un], [.row (149 : Go.TypeId) (.pair I64 (.pair I64 I64))]⟩⟩]
abbrev V20 : Type := (Int × (List (Int × Int)) × Int × Int × Unit) × ((List Int) × (List (Int × (Int × Int))) × Unit)
abbrev X20 : Type := (Int × Unit) × ((List (Int × (Int × Int))) × Unit)
noncomputable def R20 {R : Type} (top4 : Int) (t56 : (List (Int × Int))) (t57 : Int) (t58 : Int) (r0 : List Int) (r1 : List (Int × (Int × Int))) (k : V20 → Option R) (kx : X20 → Option R) : Option R := (if Decidable.decide (t58 < t57) = Bool.true then (if (0 : Int) ≤ t58 then (if t58 < (↑(List.length t56) : Int) then (if (0 : Int) ≤ (List.getD t56 (Int.toNat t58) ((0 : Int), (0 : Int))).1 then (if (List.getD t56 (Int.toNat t58) ((0 : Int), (0 : Int))).1 < (↑(List.length r0) : Int) then (if (0 : Int) ≤ (List.getD t56 (Int.toNat t58) ((0 : Int), (0 : Int))).2 then (if (List.getD t56 (Int.toNat t58) ((0 : Int), (0 : Int))).2 < (↑(List.length r0) : Int) then (if (0 : Int) ≤ if List.getD r0 (Int.toNat (List.getD t56 (Int.toNat t58) ((0 : Int), (0 : Int))).2) (0 : Int) < List.getD r0 (Int.toNat (List.getD t56 (Int.toNat t58) ((0 : Int), (0 : Int))).1) (0 : Int) then List.getD r0 (Int.toNat (List.getD t56 (Int.toNat t58) ((0 : Int), (0 : Int))).2) (0 : Int) else List.getD r0 (Int.toNat (List.getD t56 (Int.toNat t58) ((0 : Int), (0 : Int))).1) (0 : Int) then (if (if List.getD r0 (Int.toNat (List.getD t56 (Int.toNat t58) ((0 : Int), (0 : Int))).2) (0 : Int) < List.getD r0 (Int.toNat (List.getD t56 (Int.toNat t58) ((0 : Int), (0 : Int))).1) (0 : Int) then List.getD r0 (Int.toNat (List.getD t56 (Int.toNat t58) ((0 : Int), (0 : Int))).2) (0 : Int) else List.getD r0 (Int.toNat (List.getD t56 (Int.toNat t58) ((0 : Int), (0 : Int))).1) (0 : Int)) < (↑(List.length r1) : Int) then (if (0 : Int) ≤ if List.getD r0 (Int.toNat (List.getD t56 (Int.toNat t58) ((0 : Int), (0 : Int))).2) (0 : Int) < List.getD r0 (Int.toNat (List.getD t56 (Int.toNat t58) ((0 : Int), (0 : Int))).1) (0 : Int) then List.getD r0 (Int.toNat (List.getD t56 (Int.toNat t58) ((0 : Int), (0 : Int))).2) (0 : Int) else List.getD r0 (Int.toNat (List.getD t56 (Int.toNat t58) ((0 : Int), (0 : Int))).1) (0 : Int) then (if (if List.getD r0 (Int.toNat (List.getD t56 (Int.toNat t58) ((0 : Int), (0 : Int))).2) (0 : Int) < List.getD r0 (Int.toNat (List.getD t56 (Int.toNat t58) ((0 : Int), (0 : Int))).1) (0 : Int) then List.getD r0 (Int.toNat (List.getD t56 (Int.toNat t58) ((0 : Int), (0 : Int))).2) (0 : Int) else List.getD r0 (Int.toNat (List.getD t56 (Int.toNat t58) ((0 : Int), (0 : Int))).1) (0 : Int)) < (↑(List.length r1) : Int) then (if Int.toNat (if List.getD r0 (Int.toNat (List.getD t56 (Int.toNat t58) ((0 : Int), (0 : Int))).2) (0 : Int) < List.getD r0 (Int.toNat (List.getD t56 (Int.toNat t58) ((0 : Int), (0 : Int))).1) (0 : Int) then List.getD r0 (Int.toNat (List.getD t56 (Int.toNat t58) ((0 : Int), (0 : Int))).2) (0 : Int) else List.getD r0 (Int.toNat (List.getD t56 (Int.toNat t58) ((0 : Int), (0 : Int))).1) (0 : Int)) < List.length r1 then k ((top4, t56, t57, IntKind.wrap .i64 (t58 + (1 : Int)), ()), (r0, List.set r1 (Int.toNat (if List.getD r0 (Int.toNat (List.getD t56 (Int.toNat t58) ((0 : Int), (0 : Int))).2) (0 : Int) < List.getD r0 (Int.toNat (List.getD t56 (Int.toNat t58) ((0 : Int), (0 : Int))).1) (0 : Int) then List.getD r0 (Int.toNat (List.getD t56 (Int.toNat t58) ((0 : Int), (0 : Int))).2) (0 : Int) else List.getD r0 (Int.toNat (List.getD t56 (Int.toNat t58) ((0 : Int), (0 : Int))).1) (0 : Int))) ((List.getD r1 (Int.toNat (if List.getD r0 (Int.toNat (List.getD t56 (Int.toNat t58) ((0 : Int), (0 : Int))).2) (0 : Int) < List.getD r0 (Int.toNat (List.getD t56 (Int.toNat t58) ((0 : Int), (0 : Int))).1) (0 : Int) then List.getD r0 (Int.toNat (List.getD t56 (Int.toNat t58) ((0 : Int), (0 : Int))).2) (0 : Int) else List.getD r0 (Int.toNat (List.getD t56 (Int.toNat t58) ((0 : Int), (0 : Int))).1) (0 : Int))) ((0 : Int), (0 : Int), (0 : Int))).1, (List.getD r1 (Int.toNat (if List.getD r0 (Int.toNat (List.getD t56 (Int.toNat t58) ((0 : Int), (0 : Int))).2) (0 : Int) < List.getD r0 (Int.toNat (List.getD t56 (Int.toNat t58) ((0 : Int), (0 : Int))).1) (0 : Int) then List.getD r0 (Int.toNat (List.getD t56 (Int.toNat t58) ((0 : Int), (0 : Int))).2) (0 : Int) else List.getD r0 (Int.toNat (List.getD t56 (Int.toNat t58) ((0 : Int), (0 : Int))).1) (0 : Int))) ((0 : Int), (0 : Int), (0 : Int))).2.1, IntKind.wrap .i64 ((List.getD r1 (Int.toNat (if List.getD r0 (Int.toNat (List.getD t56 (Int.toNat t58) ((0 : Int), (0 : Int))).2) (0 : Int) < List.getD r0 (Int.toNat (List.getD t56 (Int.toNat t58) ((0 : Int), (0 : Int))).1) (0 : Int) then List.getD r0 (Int.toNat (List.getD t56 (Int.toNat t58) ((0 : Int), (0 : Int))).2) (0 : Int) else List.getD r0 (Int.toNat (List.getD t56 (Int.toNat t58) ((0 : Int), (0 : Int))).1) (0 : Int))) ((0 : Int), (0 : Int), (0 : Int))).2.2 + (1 : Int))), ()))
 else none)
 else none)
 else none)
 else none)
 else none)
 else none)
 else none)
 else none)
 else none)
 else none)
 else none)
 else kx (((top4, ()), (r1, ()))))
noncomputable def rd20 : Rd (VO s20) (Xs x20) := fun v k kx => match v with
  | ((top4, t56, t57, t58, _), (r0, r1, _)) => R20 top4 t56 t57 t58 r0 r1 k kx
noncomputable def F20 (top4 : Int) (t56 : (List (Int × Int))) (t57 : Int) (t58 : Int) (r0 : List Int) (r1 : List (Int × (Int × Int))) : Option X20 := finOf rd20 ((top4, t56, t57, t58, ()), (r0, r1, ()))
theorem F20_inv {top4 : Int} {t56 : (List (Int × Int))} {t57 : Int} {r0 : List Int} (I : Int → List (Int × (Int × Int)) → Prop) (μ : Int → List (Int × (Int × Int)) → Nat) (Q : X20 → Prop) (h : ∀ (t58 : Int) (r1 : List (Int × (Int × Int))), I t58 r1 → Led (fun (R : Type) (k : V20 → Option R) (kx : X20 → Option R) => R20 top4 t56 t57 t58 r0 r1 k kx) (fun v => ∃ (t58' : Int) (r1' : List (Int × (Int × Int))), v = ((top4, t56, t57, t58', ()), (r0, r1', ())) ∧ I t58' r1' ∧ μ t58' r1' < μ t58 r1) Q) : ∀ (t58 : Int) (r1 : List (Int × (Int × Int))), I t58 r1 → ∃ z, F20 top4 t56 t57 t58 r0 r1 = some z ∧ Q z := fun t58 r1 hi => by
  refine finOf_inv (V := V20) (X := X20) (rd := rd20) (fun v => ∃ (t58' : Int) (r1' : List (Int × (Int × Int))), v = ((top4, t56, t57, t58', ()), (r0, r1', ())) ∧ I t58' r1') (fun v => match v with
    | ((top4, t56, t57, t58, _), (r0, r1, _)) => μ t58 r1) Q (fun v hv => ?_) ((top4, t56, t57, t58, ()), (r0, r1, ())) ⟨t58, r1, rfl, hi⟩
  obtain ⟨t58, r1, rfl, hi⟩ := hv
  refine led_mono (h t58 r1 hi) ?_ (fun _ q => q)
  rintro v ⟨t58', r1', rfl, h1, h2⟩
  exact ⟨⟨t58', r1', rfl, h1⟩, h2⟩
noncomputable def L20 : Lp := ⟨20, ⟨[(3, none), (4, none), (7, none), (56, none), (57, none), (58, none)]⟩, s20, x20, fun v => match v with
  | ((top4, t56, t57, t58, _), (r0, r1, _)) => F20 top4 t56 t57 t58 r0 r1⟩
theorem ends20 : Ends L20 rd20 := ends_fin (fun v => by
  obtain ⟨⟨top4, t56, t57, t58, _⟩, ⟨r0, r1, _⟩⟩ := v
  rfl)
abbrev s25 : Shape := ⟨[.un, .un, .un, .un, .un, .un, .un, .row 0, .un, .un, .un, .un, .un, .v I64, .un, .un, .un, .un, .un, .un, .un, .un, .un, .un, .un, .un, .un, .un, .un, .un, .un, .un, .un, .un, .un, .un, .un, .un, .un, .un, .un, .un, .un, .un, .un, .un, .un, .un, .un, .un, .un, .un, .un, .un, .un, .un, .un, .un, .un, .un, .un, .un, .un, .un, .un, .un, .un, .un, .un, .un, .un, .un, .un, .un, .un, .un, .un, .un, .un, .un, .un, .un, .un, .un, .un, .un, .un, .un, .un, .un, .un, .un, .un, .un, .un, .un, .un, .un, .un, .un, .un, .un], [.row (149 : Go.TypeId) (.pair I64 (.pair I64 I64))]⟩
abbrev x25 : List Way := [⟨(.ex 8), ⟨[(7, none)]⟩, ⟨[.un, .un, .un, .un, .un, .un, .un, .row 0, .un, .un, .un, .un, .un, .un, .un, .un, .un, .un, .un, .un, .un, .un, .un, .un, .un, .un, .un, .un, .un, .un, .un, .un, .un, .un, .un, .un, .un, .un, .un, .un, .un, .un, .un, .un, .un, .un, .un, .un, .un, .un, .un, .un, .un, .un, .un, .un, .un, .un, .un, .un, .un, .un, .un, .un, .un, .un, .un, .un, .un, .un, .un, .un, .un, .un, .un, .un, .un, .un, .un, .un, .un, .un, .un, .un, .un, .un, .un, .un, .un, .un, .un, .un, .un, .un, .un, .un, .un, .un, .un, .un, .un, .un], [.row (149 : Go.TypeId) (.pair I64 (.pair I64 I64))]⟩⟩]
abbrev V25 : Type := (Int × Unit) × ((List (Int × (Int × Int))) × Unit)
abbrev X25 : Type := (Unit) × ((List (Int × (Int × Int))) × Unit)
noncomputable def R25 {R : Type} (k13 : Int) (r0 : List (Int × (Int × Int))) (k : V25 → Option R) (kx : X25 → Option R) : Option R := (if Decidable.decide (k13 ≥ (0 : Int)) = Bool.true then (if (0 : Int) ≤ k13 then (if k13 < (↑(List.length r0) : Int) then (if (0 : Int) ≤ IntKind.wrap .i64 (k13 + (1 : Int)) then (if IntKind.wrap .i64 (k13 + (1 : Int)) < (↑(List.length r0) : Int) then (if (0 : Int) ≤ k13 then (if k13 < (↑(List.length r0) : Int) then (if Int.toNat k13 < List.length r0 then k ((IntKind.wrap .i64 (k13 - (1 : Int)), ()), (List.set r0 (Int.toNat k13) ((List.getD r0 (Int.toNat k13) ((0 : Int), (0 : Int), (0 : Int))).1, (List.getD r0 (Int.toNat k13) ((0 : Int), (0 : Int), (0 : Int))).2.1, IntKind.wrap .i64 ((List.getD r0 (Int.toNat k13) ((0 : Int), (0 : Int), (0 : Int))).2.2 + (List.getD r0 (Int.toNat (IntKind.wrap .i64 (k13 + (1 : Int)))) ((0 : Int), (0 : Int), (0 : Int))).2.2)), ()))
 else none)
 else none)
 else none)
 else none)
 else none)
 else none)
 else none)
 else kx (((()), (r0, ()))))
noncomputable def rd25 : Rd (VO s25) (Xs x25) := fun v k kx => match v with
  | ((k13, _), (r0, _)) => R25 k13 r0 k kx
noncomputable def F25 (k13 : Int) (r0 : List (Int × (Int × Int))) : Option X25 := finOf rd25 ((k13, ()), (r0, ()))
theorem F25_inv  (I : Int → List (Int × (Int × Int)) → Prop) (μ : Int → List (Int × (Int × Int)) → Nat) (Q : X25 → Prop) (h : ∀ (k13 : Int) (r0 : List (Int × (Int × Int))), I k13 r0 → Led (fun (R : Type) (k : V25 → Option R) (kx : X25 → Option R) => R25 k13 r0 k kx) (fun v => ∃ (k13' : Int) (r0' : List (Int × (Int × Int))), v = ((k13', ()), (r0', ())) ∧ I k13' r0' ∧ μ k13' r0' < μ k13 r0) Q) : ∀ (k13 : Int) (r0 : List (Int × (Int × Int))), I k13 r0 → ∃ z, F25 k13 r0 = some z ∧ Q z := fun k13 r0 hi => by
  refine finOf_inv (V := V25) (X := X25) (rd := rd25) (fun v => ∃ (k13' : Int) (r0' : List (Int × (Int × Int))), v = ((k13', ()), (r0', ())) ∧ I k13' r0') (fun v => match v with
    | ((k13, _), (r0, _)) => μ k13 r0) Q (fun v hv => ?_) ((k13, ()), (r0, ())) ⟨k13, r0, rfl, hi⟩
  obtain ⟨k13, r0, rfl, hi⟩ := hv
  refine led_mono (h k13 r0 hi) ?_ (fun _ q => q)
  rintro v ⟨k13', r0', rfl, h1, h2⟩
  exact ⟨⟨k13', r0', rfl, h1⟩, h2⟩
noncomputable def L25 : Lp := ⟨25, ⟨[(7, none), (13, none)]⟩, s25, x25, fun v => match v with
  | ((k13, _), (r0, _)) => F25 k13 r0⟩
theorem ends25 : Ends L25 rd25 := ends_fin (fun v => by
  obtain ⟨⟨k13, _⟩, ⟨r0, _⟩⟩ := v
  rfl)
noncomputable def env : Env := mkEnv tab6 [(35, Pairs.sig), (82, Cores.sig)] 0 [(22, [0, 1, 2, 3, 4, 5, 6, 7, 8, 9, 10, 11, 12, 13, 14, 15, 16, 17, 18]), (27, [0, 1, 2, 3, 4, 5, 6, 7, 8, 9, 10, 11, 12, 13, 14])] [L4, L10, L15, L20, L25]
theorem round4 : RoundIs env (sub [true, true, true, false, true, false, false] code) L4 rd4 := fun R v k kx => by kernel_rfl
theorem round10 : RoundIs env (sub [true, true, true, true, true, false, true, false, false] code) L10 rd10 := fun R v k kx => by kernel_rfl
theorem round15 : RoundIs env (sub [true, true, true, true, true, true, false, true, false, false] code) L15 rd15 := fun R v k kx => by kernel_rfl
theorem round20 : RoundIs env (sub [true, true, true, true, true, true, true, false, true, false, false] code) L20 rd20 := fun R v k kx => by kernel_rfl
theorem round25 : RoundIs env (sub [true, true, true, true, true, true, true, true, false, true, false, false] code) L25 rd25 := fun R v k kx => by kernel_rfl
abbrev D : Type := ((List (Int × (Int × Int))) × Unit)
noncomputable def run' (g0 : (Option Gr)) : Option D := (if Cores.pre g0 = Bool.true then (match F4 (g0) ((-1 : Int)) ((↑(List.length (Cores.fn g0).1) : Int)) ((0 : Int)) ((Cores.fn g0).1) with
  | some (((g0_1, top4_1, _), (r0_1, _))) => (if IntKind.wrap .i64 (top4_1 + (1 : Int)) = IntKind.wrap .i64 (top4_1 + (1 : Int)) then (if (0 : Int) ≤ IntKind.wrap .i64 (top4_1 + (1 : Int)) then (if Int.toNat (IntKind.wrap .i64 (top4_1 + (1 : Int))) * (24 : Nat) ≤ (140737488355328 : Nat) then (match F10 (g0_1) (top4_1) ((↑(List.length (List.replicate (Int.toNat (IntKind.wrap .i64 (top4_1 + (1 : Int)))) ((0 : Int), (0 : Int), (0 : Int)))) : Int)) ((0 : Int)) (r0_1) (List.replicate (Int.toNat (IntKind.wrap .i64 (top4_1 + (1 : Int)))) ((0 : Int), (0 : Int), (0 : Int))) with
  | some (((g0_2, top4_2, _), (r0_2, r1_2, _))) => (match F15 (g0_2) (top4_2) ((↑(List.length r0_2) : Int)) ((0 : Int)) (r0_2) (r1_2) with
  | some (((g0_3, top4_3, _), (r0_3, r1_3, _))) => (if Pairs.pre g0_3 = Bool.true then (match F20 (top4_3) ((Pairs.fn g0_3).1) ((↑(List.length (Pairs.fn g0_3).1) : Int)) ((0 : Int)) (r0_3) (r1_3) with
  | some (((top4_4, _), (r0_4, _))) => (match F25 (IntKind.wrap .i64 (top4_4 - (1 : Int))) (r0_4) with
  | some ((_, (r0_5, _))) => some (r0_5, ())
  | none => none)
  | none => none)
 else none)
  | none => none)
  | none => none)
 else none)
 else none)
 else none)
  | none => none)
 else none)
noncomputable def run (d : Ds (List.map PM.ty ps)) : Option (Ds (muts ps ++ List.map PM.ty rs)) := match d with
  | (g0, _) => run' g0
theorem run_is : ∀ d, runF env 102 code [2] ps rs d = run d := fun d => by kernel_rfl
theorem loops : LoopsOk env code := loopsOk_of (l := [[true, true, true, false, true, false, false], [true, true, true, true, true, false, true, false, false], [true, true, true, true, true, true, false, true, false, false], [true, true, true, true, true, true, true, false, true, false, false], [true, true, true, true, true, true, true, true, false, true, false, false]]) (by kernel_rfl) (fun p hp => by
  simp only [List.mem_cons, List.not_mem_nil, or_false] at hp
  rcases hp with rfl | rfl | rfl | rfl | rfl
  · exact loopOk_lp (L := L4) (x := sub [true, true, true, false, true, false, false] code) (by kernel_rfl) (by simp [L4]) round4 ends4
  · exact loopOk_lp (L := L10) (x := sub [true, true, true, true, true, false, true, false, false] code) (by kernel_rfl) (by simp [L10]) round10 ends10
  · exact loopOk_lp (L := L15) (x := sub [true, true, true, true, true, true, false, true, false, false] code) (by kernel_rfl) (by simp [L15]) round15 ends15
  · exact loopOk_lp (L := L20) (x := sub [true, true, true, true, true, true, true, false, true, false, false] code) (by kernel_rfl) (by simp [L20]) round20 ends20
  · exact loopOk_lp (L := L25) (x := sub [true, true, true, true, true, true, true, true, false, true, false, false] code) (by kernel_rfl) (by simp [L25]) round25 ends25
  )
noncomputable def pre (g0 : (Option Gr)) : Bool := (run' g0).isSome
noncomputable def fn (g0 : (Option Gr)) : D := match run' g0 with
  | some x => x
  | none => default
noncomputable def sig : Sig := ⟨ps, rs, fun d => match d with
  | (g0, _) => pre g0, fun d => match d with
  | (g0, _) => fn g0, false⟩
theorem run_fn (g0 : (Option Gr)) (h : pre g0 = true) : run' g0 = some (fn g0) := by
  unfold pre at h
  unfold fn
  cases e : run' g0 with
  | some x => rfl
  | none => rw [e] at h; cases h
theorem is_fn (g0 : (Option Gr)) {x : D} (h : run' g0 = some x) : pre g0 = true ∧ fn g0 = x := by
  unfold pre fn
  rw [h]
  exact ⟨rfl, rfl⟩
theorem sound {ρ : Obs} (hE : EnvOk Go.Proofs.Try.prog ρ env) : Sound Go.Proofs.Try.prog ρ 89 sig := sound_of (fn := Go.Proofs.Try.f89) (c := code) (res := [2]) hE (by kernel_rfl) (by kernel_rfl) (by kernel_rfl) (by kernel_rfl) (by kernel_rfl) loops rfl (show 1 ≤ 102 by decide) (fun d hd => (run_is d).trans (by
  obtain ⟨g0, _⟩ := d
  exact run_fn g0 hd))
theorem enters : Enters Go.Proofs.Try.prog 89 := enters_of (fn := Go.Proofs.Try.f89) (by kernel_rfl) (by kernel_rfl) (by kernel_rfl)
theorem ok {ρ : Obs} (h : ∀ p ∈ ([(35, Pairs.sig), (82, Cores.sig)] : List (FuncId × Sig)), Enters Go.Proofs.Try.prog p.1 ∧ Sound Go.Proofs.Try.prog ρ p.1 p.2) : Enters Go.Proofs.Try.prog 89 ∧ Sound Go.Proofs.Try.prog ρ 89 sig := ⟨enters, sound (envOk_of tab6Ok h)⟩
theorem okR : Enters Go.Proofs.Try.prog 89 ∧ Sound Go.Proofs.Try.prog rho 89 sig := ok (fun p hp => by
  simp only [List.mem_cons, List.not_mem_nil, or_false] at hp
  rcases hp with rfl | rfl
  · exact Pairs.okR
  · exact Cores.okR)
end ShellsP
namespace densP
abbrev ps : List PM := [.val (.list (.pair I64 (.pair I64 I64))), .val I64]
abbrev rs : List PM := [.val .flt]
noncomputable abbrev code : Code := (Go.Proofs.Try.f142.body.getD .skip)
abbrev s3 : Shape := ⟨[.v (.list (.pair I64 (.pair I64 I64))), .v I64, .un, .un, .un, .v I64, .un, .un, .un, .un, .v (.list (.pair I64 (.pair I64 I64))), .v I64, .v I64, .un, .un, .un, .un, .un, .un, .un, .un, .un, .un, .un, .un, .un, .un, .un, .un, .un], []⟩
abbrev x3 : List Way := [⟨(.ex 0), ⟨[(0, none), (1, none), (5, none)]⟩, ⟨[.v (.list (.pair I64 (.pair I64 I64))), .v I64, .un, .un, .un, .v I64, .un, .un, .un, .un, .un, .un, .un, .un, .un, .un, .un, .un, .un, .un, .un, .un, .un, .un, .un, .un, .un, .un, .un, .un], []⟩⟩]
abbrev V3 : Type := ((List (Int × (Int × Int))) × Int × Int × (List (Int × (Int × Int))) × Int × Int × Unit) × (Unit)
abbrev X3 : Type := ((List (Int × (Int × Int))) × Int × Int × Unit) × (Unit)
noncomputable def R3 {R : Type} (l0 : (List (Int × (Int × Int)))) (k1 : Int) (n5 : Int) (t10 : (List (Int × (Int × Int)))) (t11 : Int) (t12 : Int) (k : V3 → Option R) (kx : X3 → Option R) : Option R := (if Decidable.decide (t12 < t11) = Bool.true then (if (0 : Int) ≤ t12 then (if t12 < (↑(List.length t10) : Int) then k ((l0, k1, IntKind.wrap .i64 (n5 + (List.getD t10 (Int.toNat t12) ((0 : Int), (0 : Int), (0 : Int))).2.1), t10, t11, IntKind.wrap .i64 (t12 + (1 : Int)), ()), (()))
 else none)
 else none)
 else kx (((l0, k1, n5, ()), (()))))
noncomputable def rd3 : Rd (VO s3) (Xs x3) := fun v k kx => match v with
  | ((l0, k1, n5, t10, t11, t12, _), _) => R3 l0 k1 n5 t10 t11 t12 k kx
noncomputable def F3 (l0 : (List (Int × (Int × Int)))) (k1 : Int) (n5 : Int) (t10 : (List (Int × (Int × Int)))) (t11 : Int) (t12 : Int) : Option X3 := finOf rd3 ((l0, k1, n5, t10, t11, t12, ()), (()))
theorem F3_inv {l0 : (List (Int × (Int × Int)))} {k1 : Int} {t10 : (List (Int × (Int × Int)))} {t11 : Int} (I : Int → Int → Prop) (μ : Int → Int → Nat) (Q : X3 → Prop) (h : ∀ (n5 : Int) (t12 : Int), I n5 t12 → Led (fun (R : Type) (k : V3 → Option R) (kx : X3 → Option R) => R3 l0 k1 n5 t10 t11 t12 k kx) (fun v => ∃ (n5' : Int) (t12' : Int), v = ((l0, k1, n5', t10, t11, t12', ()), ()) ∧ I n5' t12' ∧ μ n5' t12' < μ n5 t12) Q) : ∀ (n5 : Int) (t12 : Int), I n5 t12 → ∃ z, F3 l0 k1 n5 t10 t11 t12 = some z ∧ Q z := fun n5 t12 hi => by
  refine finOf_inv (V := V3) (X := X3) (rd := rd3) (fun v => ∃ (n5' : Int) (t12' : Int), v = ((l0, k1, n5', t10, t11, t12', ()), ()) ∧ I n5' t12') (fun v => match v with
    | ((l0, k1, n5, t10, t11, t12, _), _) => μ n5 t12) Q (fun v hv => ?_) ((l0, k1, n5, t10, t11, t12, ()), ()) ⟨n5, t12, rfl, hi⟩
  obtain ⟨n5, t12, rfl, hi⟩ := hv
  refine led_mono (h n5 t12 hi) ?_ (fun _ q => q)
  rintro v ⟨n5', t12', rfl, h1, h2⟩
  exact ⟨⟨n5', t12', rfl, h1⟩, h2⟩
noncomputable def L3 : Lp := ⟨3, ⟨[(0, none), (1, none), (5, none), (10, none), (11, none), (12, none)]⟩, s3, x3, fun v => match v with
  | ((l0, k1, n5, t10, t11, t12, _), _) => F3 l0 k1 n5 t10 t11 t12⟩
theorem ends3 : Ends L3 rd3 := ends_fin (fun v => by
  obtain ⟨⟨l0, k1, n5, t10, t11, t12, _⟩, ⟨_⟩⟩ := v
  rfl)
noncomputable def env : Env := mkEnv tab6 [] 0 [] [L3]
theorem round3 : RoundIs env (sub [true, true, false, true, false, false] code) L3 rd3 := fun R v k kx => by kernel_rfl
abbrev D : Type := (Nat × Unit)
noncomputable def run' (l0 : (List (Int × (Int × Int)))) (k1 : Int) : Option D := (if (0 : Int) ≤ k1 then (if k1 ≤ (↑(List.length l0) : Int) then (match F3 (l0) (k1) ((0 : Int)) (List.drop (Int.toNat k1) l0) ((↑(List.length (List.drop (Int.toNat k1) l0)) : Int)) ((0 : Int)) with
  | some (((l0_1, k1_1, n5_1, _), _)) => (if (0 : Int) ≤ k1_1 then (if k1_1 < (↑(List.length l0_1) : Int) then (match Ieee.Format.div (Go.FloatKind.format Go.FloatKind.f64) (Go.FloatKind.nearest Go.FloatKind.f64 (List.getD l0_1 (Int.toNat k1_1) ((0 : Int), (0 : Int), (0 : Int))).2.2) (Go.FloatKind.nearest Go.FloatKind.f64 n5_1) with
  | some q1_ => some (q1_, ())
  | none => none)
 else none)
 else none)
  | none => none)
 else none)
 else none)
noncomputable def run (d : Ds (List.map PM.ty ps)) : Option (Ds (muts ps ++ List.map PM.ty rs)) := match d with
  | (l0, k1, _) => run' l0 k1
theorem run_is : ∀ d, runF env 30 code [4] ps rs d = run d := fun d => by kernel_rfl
theorem loops : LoopsOk env code := loopsOk_of (l := [[true, true, false, true, false, false]]) (by kernel_rfl) (fun p hp => by
  simp only [List.mem_cons, List.not_mem_nil, or_false] at hp
  rcases hp with rfl
  · exact loopOk_lp (L := L3) (x := sub [true, true, false, true, false, false] code) (by kernel_rfl) (by simp [L3]) round3 ends3
  )
noncomputable def pre (l0 : (List (Int × (Int × Int)))) (k1 : Int) : Bool := (run' l0 k1).isSome
noncomputable def fn (l0 : (List (Int × (Int × Int)))) (k1 : Int) : D := match run' l0 k1 with
  | some x => x
  | none => default
noncomputable def sig : Sig := ⟨ps, rs, fun d => match d with
  | (l0, k1, _) => pre l0 k1, fun d => match d with
  | (l0, k1, _) => fn l0 k1, false⟩
theorem run_fn (l0 : (List (Int × (Int × Int)))) (k1 : Int) (h : pre l0 k1 = true) : run' l0 k1 = some (fn l0 k1) := by
  unfold pre at h
  unfold fn
  cases e : run' l0 k1 with
  | some x => rfl
  | none => rw [e] at h; cases h
theorem is_fn (l0 : (List (Int × (Int × Int)))) (k1 : Int) {x : D} (h : run' l0 k1 = some x) : pre l0 k1 = true ∧ fn l0 k1 = x := by
  unfold pre fn
  rw [h]
  exact ⟨rfl, rfl⟩
theorem sound {ρ : Obs} (hE : EnvOk Go.Proofs.Try.prog ρ env) : Sound Go.Proofs.Try.prog ρ 142 sig := sound_of (fn := Go.Proofs.Try.f142) (c := code) (res := [4]) hE (by kernel_rfl) (by kernel_rfl) (by kernel_rfl) (by kernel_rfl) (by kernel_rfl) loops rfl (show 2 ≤ 30 by decide) (fun d hd => (run_is d).trans (by
  obtain ⟨l0, k1, _⟩ := d
  exact run_fn l0 k1 hd))
theorem enters : Enters Go.Proofs.Try.prog 142 := enters_of (fn := Go.Proofs.Try.f142) (by kernel_rfl) (by kernel_rfl) (by kernel_rfl)
theorem ok {ρ : Obs} (h : ∀ p ∈ ([] : List (FuncId × Sig)), Enters Go.Proofs.Try.prog p.1 ∧ Sound Go.Proofs.Try.prog ρ p.1 p.2) : Enters Go.Proofs.Try.prog 142 ∧ Sound Go.Proofs.Try.prog ρ 142 sig := ⟨enters, sound (envOk_of tab6Ok h)⟩
theorem okR : Enters Go.Proofs.Try.prog 142 ∧ Sound Go.Proofs.Try.prog rho 142 sig := ok (fun p hp => by
  cases hp)
end densP
namespace DstP
abbrev ps : List PM := [.val (.obj 0)]
abbrev rs : List PM := [.val I64, .val .flt]
noncomputable abbrev code : Code := (Go.Proofs.Try.f95.body.getD .skip)
abbrev s4 : Shape := ⟨[.un, .un, .un, .un, .row 0, .v I64, .v .flt, .un, .un, .un, .un, .un, .v I64, .v I64, .un, .un, .un, .un, .un, .un, .un, .un, .un, .un, .un, .un, .un], [.row (149 : Go.TypeId) (.pair I64 (.pair I64 I64))]⟩
abbrev x4 : List Way := [⟨(.ex 0), ⟨[(5, none), (6, none)]⟩, ⟨[.un, .un, .un, .un, .un, .v I64, .v .flt, .un, .un, .un, .un, .un, .un, .un, .un, .un, .un, .un, .un, .un, .un, .un, .un, .un, .un, .un, .un], []⟩⟩]
abbrev V4 : Type := (Int × Nat × Int × Int × Unit) × ((List (Int × (Int × Int))) × Unit)
abbrev X4 : Type := (Int × Nat × Unit) × (Unit)
noncomputable def R4 {R : Type} (best5 : Int) (most6 : Nat) (t12 : Int) (t13 : Int) (r0 : List (Int × (Int × Int))) (k : V4 → Option R) (kx : X4 → Option R) : Option R := (if Decidable.decide (t13 < t12) = Bool.true then (if densP.pre r0 t13 = Bool.true then (if (Ieee.Format.order (Go.FloatKind.format Go.FloatKind.f64) (densP.fn r0 t13).1 most6 == Option.some Ordering.gt || Ieee.Format.order (Go.FloatKind.format Go.FloatKind.f64) (densP.fn r0 t13).1 most6 == Option.some Ordering.eq) = Bool.true then k ((t13, (densP.fn r0 t13).1, t12, IntKind.wrap .i64 (t13 + (1 : Int)), ()), (r0, ()))
 else k ((best5, most6, t12, IntKind.wrap .i64 (t13 + (1 : Int)), ()), (r0, ())))
 else none)
 else kx (((best5, most6, ()), (()))))
noncomputable def rd4 : Rd (VO s4) (Xs x4) := fun v k kx => match v with
  | ((best5, most6, t12, t13, _), (r0, _)) => R4 best5 most6 t12 t13 r0 k kx
noncomputable def F4 (best5 : Int) (most6 : Nat) (t12 : Int) (t13 : Int) (r0 : List (Int × (Int × Int))) : Option X4 := finOf rd4 ((best5, most6, t12, t13, ()), (r0, ()))
theorem F4_inv {t12 : Int} {r0 : List (Int × (Int × Int))} (I : Int → Nat → Int → Prop) (μ : Int → Nat → Int → Nat) (Q : X4 → Prop) (h : ∀ (best5 : Int) (most6 : Nat) (t13 : Int), I best5 most6 t13 → Led (fun (R : Type) (k : V4 → Option R) (kx : X4 → Option R) => R4 best5 most6 t12 t13 r0 k kx) (fun v => ∃ (best5' : Int) (most6' : Nat) (t13' : Int), v = ((best5', most6', t12, t13', ()), (r0, ())) ∧ I best5' most6' t13' ∧ μ best5' most6' t13' < μ best5 most6 t13) Q) : ∀ (best5 : Int) (most6 : Nat) (t13 : Int), I best5 most6 t13 → ∃ z, F4 best5 most6 t12 t13 r0 = some z ∧ Q z := fun best5 most6 t13 hi => by
  refine finOf_inv (V := V4) (X := X4) (rd := rd4) (fun v => ∃ (best5' : Int) (most6' : Nat) (t13' : Int), v = ((best5', most6', t12, t13', ()), (r0, ())) ∧ I best5' most6' t13') (fun v => match v with
    | ((best5, most6, t12, t13, _), (r0, _)) => μ best5 most6 t13) Q (fun v hv => ?_) ((best5, most6, t12, t13, ()), (r0, ())) ⟨best5, most6, t13, rfl, hi⟩
  obtain ⟨best5, most6, t13, rfl, hi⟩ := hv
  refine led_mono (h best5 most6 t13 hi) ?_ (fun _ q => q)
  rintro v ⟨best5', most6', t13', rfl, h1, h2⟩
  exact ⟨⟨best5', most6', t13', rfl, h1⟩, h2⟩
noncomputable def L4 : Lp := ⟨4, ⟨[(4, none), (5, none), (6, none), (12, none), (13, none)]⟩, s4, x4, fun v => match v with
  | ((best5, most6, t12, t13, _), (r0, _)) => F4 best5 most6 t12 t13 r0⟩
theorem ends4 : Ends L4 rd4 := ends_fin (fun v => by
  obtain ⟨⟨best5, most6, t12, t13, _⟩, ⟨r0, _⟩⟩ := v
  rfl)
noncomputable def env : Env := mkEnv tab6 [(89, ShellsP.sig), (142, densP.sig)] 0 [] [L4]
theorem round4 : RoundIs env (sub [true, true, true, false, true, false, false] code) L4 rd4 := fun R v k kx => by kernel_rfl
abbrev D : Type := (Int × Nat × Unit)
noncomputable def run' (g0 : (Option Gr)) : Option D := (if ShellsP.pre g0 = Bool.true then (match F4 ((0 : Int)) ((0 : Nat)) ((↑(List.length (ShellsP.fn g0).1) : Int)) ((0 : Int)) ((ShellsP.fn g0).1) with
  | some (((best5_1, most6_1, _), _)) => some (best5_1, most6_1, ())
  | none => none)
 else none)
noncomputable def run (d : Ds (List.map PM.ty ps)) : Option (Ds (muts ps ++ List.map PM.ty rs)) := match d with
  | (g0, _) => run' g0
theorem run_is : ∀ d, runF env 27 code [2, 3] ps rs d = run d := fun d => by kernel_rfl
theorem loops : LoopsOk env code := loopsOk_of (l := [[true, true, true, false, true, false, false]]) (by kernel_rfl) (fun p hp => by
  simp only [List.mem_cons, List.not_mem_nil, or_false] at hp
  rcases hp with rfl
  · exact loopOk_lp (L := L4) (x := sub [true, true, true, false, true, false, false] code) (by kernel_rfl) (by simp [L4]) round4 ends4
  )
noncomputable def pre (g0 : (Option Gr)) : Bool := (run' g0).isSome
noncomputable def fn (g0 : (Option Gr)) : D := match run' g0 with
  | some x => x
  | none => default
noncomputable def sig : Sig := ⟨ps, rs, fun d => match d with
  | (g0, _) => pre g0, fun d => match d with
  | (g0, _) => fn g0, false⟩
theorem run_fn (g0 : (Option Gr)) (h : pre g0 = true) : run' g0 = some (fn g0) := by
  unfold pre at h
  unfold fn
  cases e : run' g0 with
  | some x => rfl
  | none => rw [e] at h; cases h
theorem is_fn (g0 : (Option Gr)) {x : D} (h : run' g0 = some x) : pre g0 = true ∧ fn g0 = x := by
  unfold pre fn
  rw [h]
  exact ⟨rfl, rfl⟩
theorem sound {ρ : Obs} (hE : EnvOk Go.Proofs.Try.prog ρ env) : Sound Go.Proofs.Try.prog ρ 95 sig := sound_of (fn := Go.Proofs.Try.f95) (c := code) (res := [2, 3]) hE (by kernel_rfl) (by kernel_rfl) (by kernel_rfl) (by kernel_rfl) (by kernel_rfl) loops rfl (show 1 ≤ 27 by decide) (fun d hd => (run_is d).trans (by
  obtain ⟨g0, _⟩ := d
  exact run_fn g0 hd))
theorem enters : Enters Go.Proofs.Try.prog 95 := enters_of (fn := Go.Proofs.Try.f95) (by kernel_rfl) (by kernel_rfl) (by kernel_rfl)
theorem ok {ρ : Obs} (h : ∀ p ∈ ([(89, ShellsP.sig), (142, densP.sig)] : List (FuncId × Sig)), Enters Go.Proofs.Try.prog p.1 ∧ Sound Go.Proofs.Try.prog ρ p.1 p.2) : Enters Go.Proofs.Try.prog 95 ∧ Sound Go.Proofs.Try.prog ρ 95 sig := ⟨enters, sound (envOk_of tab6Ok h)⟩
theorem okR : Enters Go.Proofs.Try.prog 95 ∧ Sound Go.Proofs.Try.prog rho 95 sig := ok (fun p hp => by
  simp only [List.mem_cons, List.not_mem_nil, or_false] at hp
  rcases hp with rfl | rfl
  · exact ShellsP.okR
  · exact densP.okR)
end DstP
namespace ColP
abbrev ps : List PM := [.val (.obj 0), .val (.list I64)]
abbrev rs : List PM := [.own 3 I64, .val I64]
noncomputable abbrev code : Code := (Go.Proofs.Try.f104.body.getD .skip)
abbrev s11 : Shape := ⟨[.v (.obj 0), .v (.list I64), .un, .un, .un, .un, .row 0, .un, .row 1, .v I64, .v I64, .row 2, .un, .un, .un, .un, .un, .un, .un, .un, .un, .un, .un, .un, .un, .un, .un, .un, .un, .un, .un, .un, .un, .un, .un, .un, .un, .un, .un, .un, .un, .un, .un, .un, .v (.list I64), .v I64, .v I64, .un, .un, .un, .un, .un, .un, .un, .un, .un, .un, .un, .un, .un, .un, .un, .un, .un, .un, .un, .un, .un, .un, .un, .un, .un, .un, .un, .un, .un, .un, .un, .un, .un, .un, .un, .un, .un, .un, .un], [.row (3 : Go.TypeId) I64, .row (3 : Go.TypeId) I64, .row (4 : Go.TypeId) .bool]⟩
abbrev x11 : List Way := [⟨(.ex 2), ⟨[(0, none), (1, none), (6, none), (8, none), (9, none), (10, none), (11, none)]⟩, ⟨[.v (.obj 0), .v (.list I64), .un, .un, .un, .un, .row 0, .un, .row 1, .v I64, .v I64, .row 2, .un, .un, .un, .un, .un, .un, .un, .un, .un, .un, .un, .un, .un, .un, .un, .un, .un, .un, .un, .un, .un, .un, .un, .un, .un, .un, .un, .un, .un, .un, .un, .un, .un, .un, .un, .un, .un, .un, .un, .un, .un, .un, .un, .un, .un, .un, .un, .un, .un, .un, .un, .un, .un, .un, .un, .un, .un, .un, .un, .un, .un, .un, .un, .un, .un, .un, .un, .un, .un, .un, .un, .un, .un, .un], [.row (3 : Go.TypeId) I64, .row (3 : Go.TypeId) I64, .row (4 : Go.TypeId) .bool]⟩⟩]
abbrev V11 : Type := ((Option Gr) × (List Int) × Int × Int × (List Int) × Int × Int × Unit) × ((List Int) × (List Int) × (List Bool) × Unit)
abbrev X11 : Type := ((Option Gr) × (List Int) × Int × Int × Unit) × ((List Int) × (List Int) × (List Bool) × Unit)
noncomputable def R11 {R : Type} (g0 : (Option Gr)) (order1 : (List Int)) (i9 : Int) (v10 : Int) (t44 : (List Int)) (t45 : Int) (t46 : Int) (r0 : List Int) (r1 : List Int) (r2 : List Bool) (k : V11 → Option R) (kx : X11 → Option R) : Option R := (if Decidable.decide (t46 < t45) = Bool.true then (if (0 : Int) ≤ t46 then (if t46 < (↑(List.length t44) : Int) then (if (0 : Int) ≤ List.getD t44 (Int.toNat t46) (0 : Int) then (if List.getD t44 (Int.toNat t46) (0 : Int) < (↑(List.length r0) : Int) then (if Decidable.decide (List.getD r0 (Int.toNat (List.getD t44 (Int.toNat t46) (0 : Int))) (0 : Int) > i9) = Bool.true then (if (0 : Int) ≤ List.getD t44 (Int.toNat t46) (0 : Int) then (if List.getD t44 (Int.toNat t46) (0 : Int) < (↑(List.length r1) : Int) then (if Decidable.decide (List.getD r1 (Int.toNat (List.getD t44 (Int.toNat t46) (0 : Int))) (0 : Int) < (↑(List.length r2) : Int)) = Bool.true then (if (0 : Int) ≤ List.getD t44 (Int.toNat t46) (0 : Int) then (if List.getD t44 (Int.toNat t46) (0 : Int) < (↑(List.length r1) : Int) then (if (0 : Int) ≤ List.getD r1 (Int.toNat (List.getD t44 (Int.toNat t46) (0 : Int))) (0 : Int) then (if List.getD r1 (Int.toNat (List.getD t44 (Int.toNat t46) (0 : Int))) (0 : Int) < (↑(List.length r2) : Int) then (if Int.toNat (List.getD r1 (Int.toNat (List.getD t44 (Int.toNat t46) (0 : Int))) (0 : Int)) < List.length r2 then k ((g0, order1, i9, v10, t44, t45, IntKind.wrap .i64 (t46 + (1 : Int)), ()), (r0, r1, List.set r2 (Int.toNat (List.getD r1 (Int.toNat (List.getD t44 (Int.toNat t46) (0 : Int))) (0 : Int))) Bool.true, ()))
 else none)
 else none)
 else none)
 else none)
 else none)
 else k ((g0, order1, i9, v10, t44, t45, IntKind.wrap .i64 (t46 + (1 : Int)), ()), (r0, r1, r2, ())))
 else none)
 else none)
 else k ((g0, order1, i9, v10, t44, t45, IntKind.wrap .i64 (t46 + (1 : Int)), ()), (r0, r1, r2, ())))
 else none)
 else none)
 else none)
 else none)
 else kx (((g0, order1, i9, v10, ()), (r0, r1, r2, ()))))
noncomputable def rd11 : Rd (VO s11) (Xs x11) := fun v k kx => match v with
  | ((g0, order1, i9, v10, t44, t45, t46, _), (r0, r1, r2, _)) => R11 g0 order1 i9 v10 t44 t45 t46 r0 r1 r2 k kx
noncomputable def F11 (g0 : (Option Gr)) (order1 : (List Int)) (i9 : Int) (v10 : Int) (t44 : (List Int)) (t45 : Int) (t46 : Int) (r0 : List Int) (r1 : List Int) (r2 : List Bool) : Option X11 := finOf rd11 ((g0, order1, i9, v10, t44, t45, t46, ()), (r0, r1, r2, ()))
theorem F11_inv {g0 : (Option Gr)} {order1 : (List Int)} {i9 : Int} {v10 : Int} {t44 : (List Int)} {t45 : Int} {r0 : List Int} {r1 : List Int} (I : Int → List Bool → Prop) (μ : Int → List Bool → Nat) (Q : X11 → Prop) (h : ∀ (t46 : Int) (r2 : List Bool), I t46 r2 → Led (fun (R : Type) (k : V11 → Option R) (kx : X11 → Option R) => R11 g0 order1 i9 v10 t44 t45 t46 r0 r1 r2 k kx) (fun v => ∃ (t46' : Int) (r2' : List Bool), v = ((g0, order1, i9, v10, t44, t45, t46', ()), (r0, r1, r2', ())) ∧ I t46' r2' ∧ μ t46' r2' < μ t46 r2) Q) : ∀ (t46 : Int) (r2 : List Bool), I t46 r2 → ∃ z, F11 g0 order1 i9 v10 t44 t45 t46 r0 r1 r2 = some z ∧ Q z := fun t46 r2 hi => by
  refine finOf_inv (V := V11) (X := X11) (rd := rd11) (fun v => ∃ (t46' : Int) (r2' : List Bool), v = ((g0, order1, i9, v10, t44, t45, t46', ()), (r0, r1, r2', ())) ∧ I t46' r2') (fun v => match v with
    | ((g0, order1, i9, v10, t44, t45, t46, _), (r0, r1, r2, _)) => μ t46 r2) Q (fun v hv => ?_) ((g0, order1, i9, v10, t44, t45, t46, ()), (r0, r1, r2, ())) ⟨t46, r2, rfl, hi⟩
  obtain ⟨t46, r2, rfl, hi⟩ := hv
  refine led_mono (h t46 r2 hi) ?_ (fun _ q => q)
  rintro v ⟨t46', r2', rfl, h1, h2⟩
  exact ⟨⟨t46', r2', rfl, h1⟩, h2⟩
noncomputable def L11 : Lp := ⟨11, ⟨[(0, none), (1, none), (6, none), (8, none), (9, none), (10, none), (11, none), (44, none), (45, none), (46, none)]⟩, s11, x11, fun v => match v with
  | ((g0, order1, i9, v10, t44, t45, t46, _), (r0, r1, r2, _)) => F11 g0 order1 i9 v10 t44 t45 t46 r0 r1 r2⟩
theorem ends11 : Ends L11 rd11 := ends_fin (fun v => by
  obtain ⟨⟨g0, order1, i9, v10, t44, t45, t46, _⟩, ⟨r0, r1, r2, _⟩⟩ := v
  rfl)
abbrev s16 : Shape := ⟨[.v (.obj 0), .v (.list I64), .un, .un, .un, .un, .row 0, .un, .row 1, .v I64, .v I64, .row 2, .un, .un, .un, .un, .un, .un, .un, .un, .un, .un, .un, .un, .un, .un, .un, .un, .un, .un, .un, .un, .un, .un, .un, .un, .un, .un, .un, .un, .un, .un, .un, .un, .un, .un, .un, .un, .un, .un, .un, .un, .un, .un, .un, .un, .un, .un, .un, .un, .un, .un, .un, .un, .un, .un, .un, .un, .un, .un, .un, .un, .un, .un, .un, .un, .un, .un, .un, .un, .un, .un, .un, .un, .un, .un], [.row (3 : Go.TypeId) I64, .row (3 : Go.TypeId) I64, .row (4 : Go.TypeId) .bool]⟩
abbrev x16 : List Way := [⟨(.ex 4), ⟨[(0, none), (1, none), (6, none), (8, none), (9, none)]⟩, ⟨[.v (.obj 0), .v (.list I64), .un, .un, .un, .un, .row 0, .un, .row 1, .v I64, .un, .un, .un, .un, .un, .un, .un, .un, .un, .un, .un, .un, .un, .un, .un, .un, .un, .un, .un, .un, .un, .un, .un, .un, .un, .un, .un, .un, .un, .un, .un, .un, .un, .un, .un, .un, .un, .un, .un, .un, .un, .un, .un, .un, .un, .un, .un, .un, .un, .un, .un, .un, .un, .un, .un, .un, .un, .un, .un, .un, .un, .un, .un, .un, .un, .un, .un, .un, .un, .un, .un, .un, .un, .un, .un, .un], [.row (3 : Go.TypeId) I64, .row (3 : Go.TypeId) I64]⟩⟩]
abbrev V16 : Type := ((Option Gr) × (List Int) × Int × Int × Unit) × ((List Int) × (List Int) × (List Bool) × Unit)
abbrev X16 : Type := ((Option Gr) × (List Int) × Int × Unit) × ((List Int) × (List Int) × Unit)
noncomputable def R16 {R : Type} (g0 : (Option Gr)) (order1 : (List Int)) (i9 : Int) (v10 : Int) (r0 : List Int) (r1 : List Int) (r2 : List Bool) (k : V16 → Option R) (kx : X16 → Option R) : Option R := (if (0 : Int) ≤ v10 then (if v10 < (↑(List.length r1) : Int) then (if (0 : Int) ≤ List.getD r1 (Int.toNat v10) (0 : Int) then (if List.getD r1 (Int.toNat v10) (0 : Int) < (↑(List.length r2) : Int) then (if List.getD r2 (Int.toNat (List.getD r1 (Int.toNat v10) (0 : Int))) Bool.false = Bool.true then (if (0 : Int) ≤ v10 then (if v10 < (↑(List.length r1) : Int) then (if (0 : Int) ≤ v10 then (if v10 < (↑(List.length r1) : Int) then (if Int.toNat v10 < List.length r1 then k ((g0, order1, i9, v10, ()), (r0, List.set r1 (Int.toNat v10) (IntKind.wrap .i64 (List.getD r1 (Int.toNat v10) (0 : Int) + (1 : Int))), r2, ()))
 else none)
 else none)
 else none)
 else none)
 else none)
 else kx (((g0, order1, i9, ()), (r0, r1, ()))))
 else none)
 else none)
 else none)
 else none)
noncomputable def rd16 : Rd (VO s16) (Xs x16) := fun v k kx => match v with
  | ((g0, order1, i9, v10, _), (r0, r1, r2, _)) => R16 g0 order1 i9 v10 r0 r1 r2 k kx
noncomputable def F16 (g0 : (Option Gr)) (order1 : (List Int)) (i9 : Int) (v10 : Int) (r0 : List Int) (r1 : List Int) (r2 : List Bool) : Option X16 := finOf rd16 ((g0, order1, i9, v10, ()), (r0, r1, r2, ()))
theorem F16_inv {g0 : (Option Gr)} {order1 : (List Int)} {i9 : Int} {v10 : Int} {r0 : List Int} {r2 : List Bool} (I : List Int → Prop) (μ : List Int → Nat) (Q : X16 → Prop) (h : ∀ (r1 : List Int), I r1 → Led (fun (R : Type) (k : V16 → Option R) (kx : X16 → Option R) => R16 g0 order1 i9 v10 r0 r1 r2 k kx) (fun v => ∃ (r1' : List Int), v = ((g0, order1, i9, v10, ()), (r0, r1', r2, ())) ∧ I r1' ∧ μ r1' < μ r1) Q) : ∀ (r1 : List Int), I r1 → ∃ z, F16 g0 order1 i9 v10 r0 r1 r2 = some z ∧ Q z := fun r1 hi => by
  refine finOf_inv (V := V16) (X := X16) (rd := rd16) (fun v => ∃ (r1' : List Int), v = ((g0, order1, i9, v10, ()), (r0, r1', r2, ())) ∧ I r1') (fun v => match v with
    | ((g0, order1, i9, v10, _), (r0, r1, r2, _)) => μ r1) Q (fun v hv => ?_) ((g0, order1, i9, v10, ()), (r0, r1, r2, ())) ⟨r1, rfl, hi⟩
  obtain ⟨r1, rfl, hi⟩ := hv
  refine led_mono (h r1 hi) ?_ (fun _ q => q)
  rintro v ⟨r1', rfl, h1, h2⟩
  exact ⟨⟨r1', rfl, h1⟩, h2⟩
noncomputable def L16 : Lp := ⟨16, ⟨[(0, none), (1, none), (6, none), (8, none), (9, none), (10, none), (11, none)]⟩, s16, x16, fun v => match v with
  | ((g0, order1, i9, v10, _), (r0, r1, r2, _)) => F16 g0 order1 i9 v10 r0 r1 r2⟩
theorem ends16 : Ends L16 rd16 := ends_fin (fun v => by
  obtain ⟨⟨g0, order1, i9, v10, _⟩, ⟨r0, r1, r2, _⟩⟩ := v
  rfl)
abbrev s6 : Shape := ⟨[.v (.obj 0), .v (.list I64), .un, .un, .un, .un, .row 0, .un, .row 1, .v I64, .un, .un, .un, .un, .un, .un, .un, .un, .un, .un, .un, .un, .un, .un, .un, .un, .un, .un, .un, .un, .un, .un, .un, .un, .un, .un, .un, .un, .un, .un, .un, .un, .un, .un, .un, .un, .un, .un, .un, .un, .un, .un, .un, .un, .un, .un, .un, .un, .un, .un, .un, .un, .un, .un, .un, .un, .un, .un, .un, .un, .un, .un, .un, .un, .un, .un, .un, .un, .un, .un, .un, .un, .un, .un, .un, .un], [.row (3 : Go.TypeId) I64, .row (3 : Go.TypeId) I64]⟩
abbrev x6 : List Way := [⟨(.ex 0), ⟨[(8, none)]⟩, ⟨[.un, .un, .un, .un, .un, .un, .un, .un, .row 0, .un, .un, .un, .un, .un, .un, .un, .un, .un, .un, .un, .un, .un, .un, .un, .un, .un, .un, .un, .un, .un, .un, .un, .un, .un, .un, .un, .un, .un, .un, .un, .un, .un, .un, .un, .un, .un, .un, .un, .un, .un, .un, .un, .un, .un, .un, .un, .un, .un, .un, .un, .un, .un, .un, .un, .un, .un, .un, .un, .un, .un, .un, .un, .un, .un, .un, .un, .un, .un, .un, .un, .un, .un, .un, .un, .un, .un], [.row (3 : Go.TypeId) I64]⟩⟩]
abbrev V6 : Type := ((Option Gr) × (List Int) × Int × Unit) × ((List Int) × (List Int) × Unit)
abbrev X6 : Type := (Unit) × ((List Int) × Unit)
noncomputable def R6 {R : Type} (g0 : (Option Gr)) (order1 : (List Int)) (i9 : Int) (r0 : List Int) (r1 : List Int) (k : V6 → Option R) (kx : X6 → Option R) : Option R := (if Decidable.decide (i9 ≥ (0 : Int)) = Bool.true then (if (0 : Int) ≤ i9 then (if i9 < (↑(List.length order1) : Int) then (if Degree.pre g0 (List.getD order1 (Int.toNat i9) (0 : Int)) = Bool.true then (if IntKind.wrap .i64 ((Degree.fn g0 (List.getD order1 (Int.toNat i9) (0 : Int))).1 + (1 : Int)) = IntKind.wrap .i64 ((Degree.fn g0 (List.getD order1 (Int.toNat i9) (0 : Int))).1 + (1 : Int)) then (if (0 : Int) ≤ IntKind.wrap .i64 ((Degree.fn g0 (List.getD order1 (Int.toNat i9) (0 : Int))).1 + (1 : Int)) then (if Int.toNat (IntKind.wrap .i64 ((Degree.fn g0 (List.getD order1 (Int.toNat i9) (0 : Int))).1 + (1 : Int))) * (1 : Nat) ≤ (140737488355328 : Nat) then (if Neighbours.pre g0 (List.getD order1 (Int.toNat i9) (0 : Int)) = Bool.true then (match F11 (g0) (order1) (i9) (List.getD order1 (Int.toNat i9) (0 : Int)) ((Neighbours.fn g0 (List.getD order1 (Int.toNat i9) (0 : Int))).1) ((↑(List.length (Neighbours.fn g0 (List.getD order1 (Int.toNat i9) (0 : Int))).1) : Int)) ((0 : Int)) (r0) (r1) (List.replicate (Int.toNat (IntKind.wrap .i64 ((Degree.fn g0 (List.getD order1 (Int.toNat i9) (0 : Int))).1 + (1 : Int)))) Bool.false) with
  | some (((g0_1, order1_1, i9_1, v10_1, _), (r0_1, r1_1, r2_1, _))) => (match F16 (g0_1) (order1_1) (i9_1) (v10_1) (r0_1) (r1_1) (r2_1) with
  | some (((g0_2, order1_2, i9_2, _), (r0_2, r1_2, _))) => k ((g0_2, order1_2, IntKind.wrap .i64 (i9_2 - (1 : Int)), ()), (r0_2, r1_2, ()))
  | none => none)
  | none => none)
 else none)
 else none)
 else none)
 else none)
 else none)
 else none)
 else none)
 else kx (((()), (r1, ()))))
noncomputable def rd6 : Rd (VO s6) (Xs x6) := fun v k kx => match v with
  | ((g0, order1, i9, _), (r0, r1, _)) => R6 g0 order1 i9 r0 r1 k kx
noncomputable def F6 (g0 : (Option Gr)) (order1 : (List Int)) (i9 : Int) (r0 : List Int) (r1 : List Int) : Option X6 := finOf rd6 ((g0, order1, i9, ()), (r0, r1, ()))
theorem F6_inv {g0 : (Option Gr)} {order1 : (List Int)} {r0 : List Int} (I : Int → List Int → Prop) (μ : Int → List Int → Nat) (Q : X6 → Prop) (h : ∀ (i9 : Int) (r1 : List Int), I i9 r1 → Led (fun (R : Type) (k : V6 → Option R) (kx : X6 → Option R) => R6 g0 order1 i9 r0 r1 k kx) (fun v => ∃ (i9' : Int) (r1' : List Int), v = ((g0, order1, i9', ()), (r0, r1', ())) ∧ I i9' r1' ∧ μ i9' r1' < μ i9 r1) Q) : ∀ (i9 : Int) (r1 : List Int), I i9 r1 → ∃ z, F6 g0 order1 i9 r0 r1 = some z ∧ Q z := fun i9 r1 hi => by
  refine finOf_inv (V := V6) (X := X6) (rd := rd6) (fun v => ∃ (i9' : Int) (r1' : List Int), v = ((g0, order1, i9', ()), (r0, r1', ())) ∧ I i9' r1') (fun v => match v with
    | ((g0, order1, i9, _), (r0, r1, _)) => μ i9 r1) Q (fun v hv => ?_) ((g0, order1, i9, ()), (r0, r1, ())) ⟨i9, r1, rfl, hi⟩
  obtain ⟨i9, r1, rfl, hi⟩ := hv
  refine led_mono (h i9 r1 hi) ?_ (fun _ q => q)
  rintro v ⟨i9', r1', rfl, h1, h2⟩
  exact ⟨⟨i9', r1', rfl, h1⟩, h2⟩
noncomputable def L6 : Lp := ⟨6, ⟨[(0, none), (1, none), (6, none), (8, none), (9, none)]⟩, s6, x6, fun v => match v with
  | ((g0, order1, i9, _), (r0, r1, _)) => F6 g0 order1 i9 r0 r1⟩
theorem ends6 : Ends L6 rd6 := ends_fin (fun v => by
  obtain ⟨⟨g0, order1, i9, _⟩, ⟨r0, r1, _⟩⟩ := v
  rfl)
noncomputable def env : Env := mkEnv tab6 [(38, Neighbours.sig), (46, Degree.sig), (93, N.sig), (143, placesP.sig)] 0 [] [L11, L16, L6]
theorem round11 : RoundIs env (sub [true, true, true, true, false, true, false, false, true, false, false, true, true, false, true, false, false] code) L11 rd11 := fun R v k kx => by kernel_rfl
theorem round16 : RoundIs env (sub [true, true, true, true, false, true, false, false, true, false, false, true, true, true, false, false] code) L16 rd16 := fun R v k kx => by kernel_rfl
theorem round6 : RoundIs env (sub [true, true, true, true, false, true, false, false] code) L6 rd6 := fun R v k kx => by kernel_rfl
abbrev D : Type := ((List Int) × Int × Unit)
noncomputable def run' (g0 : (Option Gr)) (order1 : (List Int)) : Option D := (if placesP.pre g0 order1 = Bool.true then (if ((placesP.fn g0 order1).2.1 != (0 : Int)) = Bool.true then some ([], (placesP.fn g0 order1).2.1, ())
 else (if N.pre g0 = Bool.true then (if (N.fn g0).1 = (N.fn g0).1 then (if (0 : Int) ≤ (N.fn g0).1 then (if Int.toNat (N.fn g0).1 * (8 : Nat) ≤ (140737488355328 : Nat) then (match F6 (g0) (order1) (IntKind.wrap .i64 ((↑(List.length order1) : Int) - (1 : Int))) ((placesP.fn g0 order1).1) (List.replicate (Int.toNat (N.fn g0).1) (0 : Int)) with
  | some ((_, (r0_3, _))) => some (r0_3, (0 : Int), ())
  | none => none)
 else none)
 else none)
 else none)
 else none))
 else none)
noncomputable def run (d : Ds (List.map PM.ty ps)) : Option (Ds (muts ps ++ List.map PM.ty rs)) := match d with
  | (g0, order1, _) => run' g0 order1
theorem run_is : ∀ d, runF env 86 code [4, 5] ps rs d = run d := fun d => by kernel_rfl
theorem loops : LoopsOk env code := loopsOk_of (l := [[true, true, true, true, false, true, false, false], [true, true, true, true, false, true, false, false, true, false, false, true, true, false, true, false, false], [true, true, true, true, false, true, false, false, true, false, false, true, true, true, false, false]]) (by kernel_rfl) (fun p hp => by
  simp only [List.mem_cons, List.not_mem_nil, or_false] at hp
  rcases hp with rfl | rfl | rfl
  · exact loopOk_lp (L := L6) (x := sub [true, true, true, true, false, true, false, false] code) (by kernel_rfl) (by simp [L6]) round6 ends6
  · exact loopOk_lp (L := L11) (x := sub [true, true, true, true, false, true, false, false, true, false, false, true, true, false, true, false, false] code) (by kernel_rfl) (by simp [L11]) round11 ends11
  · exact loopOk_lp (L := L16) (x := sub [true, true, true, true, false, true, false, false, true, false, false, true, true, true, false, false] code) (by kernel_rfl) (by simp [L16]) round16 ends16
  )
noncomputable def pre (g0 : (Option Gr)) (order1 : (List Int)) : Bool := (run' g0 order1).isSome
noncomputable def fn (g0 : (Option Gr)) (order1 : (List Int)) : D := match run' g0 order1 with
  | some x => x
  | none => default
noncomputable def sig : Sig := ⟨ps, rs, fun d => match d with
  | (g0, order1, _) => pre g0 order1, fun d => match d with
  | (g0, order1, _) => fn g0 order1, false⟩
theorem run_fn (g0 : (Option Gr)) (order1 : (List Int)) (h : pre g0 order1 = true) : run' g0 order1 = some (fn g0 order1) := by
  unfold pre at h
  unfold fn
  cases e : run' g0 order1 with
  | some x => rfl
  | none => rw [e] at h; cases h
theorem is_fn (g0 : (Option Gr)) (order1 : (List Int)) {x : D} (h : run' g0 order1 = some x) : pre g0 order1 = true ∧ fn g0 order1 = x := by
  unfold pre fn
  rw [h]
  exact ⟨rfl, rfl⟩
theorem sound {ρ : Obs} (hE : EnvOk Go.Proofs.Try.prog ρ env) : Sound Go.Proofs.Try.prog ρ 104 sig := sound_of (fn := Go.Proofs.Try.f104) (c := code) (res := [4, 5]) hE (by kernel_rfl) (by kernel_rfl) (by kernel_rfl) (by kernel_rfl) (by kernel_rfl) loops rfl (show 2 ≤ 86 by decide) (fun d hd => (run_is d).trans (by
  obtain ⟨g0, order1, _⟩ := d
  exact run_fn g0 order1 hd))
theorem enters : Enters Go.Proofs.Try.prog 104 := enters_of (fn := Go.Proofs.Try.f104) (by kernel_rfl) (by kernel_rfl) (by kernel_rfl)
theorem ok {ρ : Obs} (h : ∀ p ∈ ([(38, Neighbours.sig), (46, Degree.sig), (93, N.sig), (143, placesP.sig)] : List (FuncId × Sig)), Enters Go.Proofs.Try.prog p.1 ∧ Sound Go.Proofs.Try.prog ρ p.1 p.2) : Enters Go.Proofs.Try.prog 104 ∧ Sound Go.Proofs.Try.prog ρ 104 sig := ⟨enters, sound (envOk_of tab6Ok h)⟩
theorem okR : Enters Go.Proofs.Try.prog 104 ∧ Sound Go.Proofs.Try.prog rho 104 sig := ok (fun p hp => by
  simp only [List.mem_cons, List.not_mem_nil, or_false] at hp
  rcases hp with rfl | rfl | rfl | rfl
  · exact Neighbours.okR
  · exact Degree.okR
  · exact N.okR
  · exact placesP.okR)
end ColP
namespace TriP
abbrev ps : List PM := [.val (.obj 0)]
abbrev rs : List PM := [.val I64]
noncomputable abbrev code : Code := (Go.Proofs.Try.f91.body.getD .skip)
abbrev s6 : Shape := ⟨[.v (.obj 0), .un, .un, .v I64, .un, .box 0 0, .v (.list I64), .v (.list I64), .un, .v (.list (.pair I64 I64)), .v I64, .v I64, .un, .un, .un, .un, .un, .un, .un, .un, .un, .un, .un, .un, .un, .un, .un, .un, .un, .un, .un, .un, .un, .un, .un, .un, .un, .un, .un, .un, .un, .un, .un, .un, .un, .un, .un, .un, .un, .un, .un, .un, .un, .un, .un, .un, .un, .un, .un, .un, .un, .un, .un, .un, .un], [.cells (32 : Go.TypeId) [.v I64, .v I64]]⟩
abbrev x6 : List Way := [⟨(.ex 2), ⟨[(0, none), (3, none), (9, none), (10, none), (11, none)]⟩, ⟨[.v (.obj 0), .un, .un, .v I64, .un, .un, .un, .un, .un, .v (.list (.pair I64 I64)), .v I64, .v I64, .un, .un, .un, .un, .un, .un, .un, .un, .un, .un, .un, .un, .un, .un, .un, .un, .un, .un, .un, .un, .un, .un, .un, .un, .un, .un, .un, .un, .un, .un, .un, .un, .un, .un, .un, .un, .un, .un, .un, .un, .un, .un, .un, .un, .un, .un, .un, .un, .un, .un, .un, .un, .un], []⟩⟩]
abbrev V6 : Type := ((Option Gr) × Int × (List Int) × (List Int) × (List (Int × Int)) × Int × Int × Unit) × ((Int × Int × Unit) × Unit)
abbrev X6 : Type := ((Option Gr) × Int × (List (Int × Int)) × Int × Int × Unit) × (Unit)
noncomputable def R6 {R : Type} (g0 : (Option Gr)) (n3 : Int) (a6 : (List Int)) (b7 : (List Int)) (t9 : (List (Int × Int))) (t10 : Int) (t11 : Int) (c0x0 : Int) (c0x1 : Int) (k : V6 → Option R) (kx : X6 → Option R) : Option R := (if Decidable.decide ((↑(List.length a6) : Int) > (0 : Int)) = Bool.true then (if Decidable.decide ((↑(List.length b7) : Int) > (0 : Int)) = Bool.true then (if (0 : Int) < (↑(List.length a6) : Int) then (if (0 : Int) < (↑(List.length b7) : Int) then (if Decidable.decide (List.getD a6 (Int.toNat (0 : Int)) (0 : Int) < List.getD b7 (Int.toNat (0 : Int)) (0 : Int)) = Bool.true then (if (1 : Int) ≤ (↑(List.length a6) : Int) then k ((g0, n3, List.drop (Int.toNat (1 : Int)) a6, b7, t9, t10, t11, ()), ((c0x0, c0x1, ()), ()))
 else none)
 else (if (0 : Int) < (↑(List.length b7) : Int) then (if (0 : Int) < (↑(List.length a6) : Int) then (if Decidable.decide (List.getD b7 (Int.toNat (0 : Int)) (0 : Int) < List.getD a6 (Int.toNat (0 : Int)) (0 : Int)) = Bool.true then (if (1 : Int) ≤ (↑(List.length b7) : Int) then k ((g0, n3, a6, List.drop (Int.toNat (1 : Int)) b7, t9, t10, t11, ()), ((c0x0, c0x1, ()), ()))
 else none)
 else (if (0 : Int) < (↑(List.length a6) : Int) then (if Decidable.decide (List.getD a6 (Int.toNat (0 : Int)) (0 : Int) > c0x1) = Bool.true then (if (1 : Int) ≤ (↑(List.length a6) : Int) then (if (1 : Int) ≤ (↑(List.length b7) : Int) then k ((g0, IntKind.wrap .i64 (n3 + (1 : Int)), List.drop (Int.toNat (1 : Int)) a6, List.drop (Int.toNat (1 : Int)) b7, t9, t10, t11, ()), ((c0x0, c0x1, ()), ()))
 else none)
 else none)
 else (if (1 : Int) ≤ (↑(List.length a6) : Int) then (if (1 : Int) ≤ (↑(List.length b7) : Int) then k ((g0, n3, List.drop (Int.toNat (1 : Int)) a6, List.drop (Int.toNat (1 : Int)) b7, t9, t10, t11, ()), ((c0x0, c0x1, ()), ()))
 else none)
 else none))
 else none))
 else none)
 else none))
 else none)
 else none)
 else kx (((g0, n3, t9, t10, t11, ()), (()))))
 else kx (((g0, n3, t9, t10, t11, ()), (()))))
noncomputable def rd6 : Rd (VO s6) (Xs x6) := fun v k kx => match v with
  | ((g0, n3, a6, b7, t9, t10, t11, _), ((c0x0, c0x1, _), _)) => R6 g0 n3 a6 b7 t9 t10 t11 c0x0 c0x1 k kx
noncomputable def F6 (g0 : (Option Gr)) (n3 : Int) (a6 : (List Int)) (b7 : (List Int)) (t9 : (List (Int × Int))) (t10 : Int) (t11 : Int) (c0x0 : Int) (c0x1 : Int) : Option X6 := finOf rd6 ((g0, n3, a6, b7, t9, t10, t11, ()), ((c0x0, c0x1, ()), ()))
theorem F6_inv {g0 : (Option Gr)} {t9 : (List (Int × Int))} {t10 : Int} {t11 : Int} {c0x0 : Int} {c0x1 : Int} (I : Int → (List Int) → (List Int) → Prop) (μ : Int → (List Int) → (List Int) → Nat) (Q : X6 → Prop) (h : ∀ (n3 : Int) (a6 : (List Int)) (b7 : (List Int)), I n3 a6 b7 → Led (fun (R : Type) (k : V6 → Option R) (kx : X6 → Option R) => R6 g0 n3 a6 b7 t9 t10 t11 c0x0 c0x1 k kx) (fun v => ∃ (n3' : Int) (a6' : (List Int)) (b7' : (List Int)), v = ((g0, n3', a6', b7', t9, t10, t11, ()), ((c0x0, c0x1, ()), ())) ∧ I n3' a6' b7' ∧ μ n3' a6' b7' < μ n3 a6 b7) Q) : ∀ (n3 : Int) (a6 : (List Int)) (b7 : (List Int)), I n3 a6 b7 → ∃ z, F6 g0 n3 a6 b7 t9 t10 t11 c0x0 c0x1 = some z ∧ Q z := fun n3 a6 b7 hi => by
  refine finOf_inv (V := V6) (X := X6) (rd := rd6) (fun v => ∃ (n3' : Int) (a6' : (List Int)) (b7' : (List Int)), v = ((g0, n3', a6', b7', t9, t10, t11, ()), ((c0x0, c0x1, ()), ())) ∧ I n3' a6' b7') (fun v => match v with
    | ((g0, n3, a6, b7, t9, t10, t11, _), ((c0x0, c0x1, _), _)) => μ n3 a6 b7) Q (fun v hv => ?_) ((g0, n3, a6, b7, t9, t10, t11, ()), ((c0x0, c0x1, ()), ())) ⟨n3, a6, b7, rfl, hi⟩
  obtain ⟨n3, a6, b7, rfl, hi⟩ := hv
  refine led_mono (h n3 a6 b7 hi) ?_ (fun _ q => q)
  rintro v ⟨n3', a6', b7', rfl, h1, h2⟩
  exact ⟨⟨n3', a6', b7', rfl, h1⟩, h2⟩
noncomputable def L6 : Lp := ⟨6, ⟨[(0, none), (3, none), (5, none), (6, none), (7, none), (9, none), (10, none), (11, none)]⟩, s6, x6, fun v => match v with
  | ((g0, n3, a6, b7, t9, t10, t11, _), ((c0x0, c0x1, _), _)) => F6 g0 n3 a6 b7 t9 t10 t11 c0x0 c0x1⟩
theorem ends6 : Ends L6 rd6 := ends_fin (fun v => by
  obtain ⟨⟨g0, n3, a6, b7, t9, t10, t11, _⟩, ⟨⟨c0x0, c0x1, _⟩, _⟩⟩ := v
  rfl)
abbrev s3 : Shape := ⟨[.v (.obj 0), .un, .un, .v I64, .un, .un, .un, .un, .un, .v (.list (.pair I64 I64)), .v I64, .v I64, .un, .un, .un, .un, .un, .un, .un, .un, .un, .un, .un, .un, .un, .un, .un, .un, .un, .un, .un, .un, .un, .un, .un, .un, .un, .un, .un, .un, .un, .un, .un, .un, .un, .un, .un, .un, .un, .un, .un, .un, .un, .un, .un, .un, .un, .un, .un, .un, .un, .un, .un, .un, .un], []⟩
abbrev x3 : List Way := [⟨(.ex 0), ⟨[(3, none)]⟩, ⟨[.un, .un, .un, .v I64, .un, .un, .un, .un, .un, .un, .un, .un, .un, .un, .un, .un, .un, .un, .un, .un, .un, .un, .un, .un, .un, .un, .un, .un, .un, .un, .un, .un, .un, .un, .un, .un, .un, .un, .un, .un, .un, .un, .un, .un, .un, .un, .un, .un, .un, .un, .un, .un, .un, .un, .un, .un, .un, .un, .un, .un, .un, .un, .un, .un, .un], []⟩⟩]
abbrev V3 : Type := ((Option Gr) × Int × (List (Int × Int)) × Int × Int × Unit) × (Unit)
abbrev X3 : Type := (Int × Unit) × (Unit)
noncomputable def R3 {R : Type} (g0 : (Option Gr)) (n3 : Int) (t9 : (List (Int × Int))) (t10 : Int) (t11 : Int) (k : V3 → Option R) (kx : X3 → Option R) : Option R := (if Decidable.decide (t11 < t10) = Bool.true then (if (0 : Int) ≤ t11 then (if t11 < (↑(List.length t9) : Int) then (if Neighbours.pre g0 (List.getD t9 (Int.toNat t11) ((0 : Int), (0 : Int))).1 = Bool.true then (if Neighbours.pre g0 (List.getD t9 (Int.toNat t11) ((0 : Int), (0 : Int))).2 = Bool.true then (match F6 (g0) (n3) ((Neighbours.fn g0 (List.getD t9 (Int.toNat t11) ((0 : Int), (0 : Int))).1).1) ((Neighbours.fn g0 (List.getD t9 (Int.toNat t11) ((0 : Int), (0 : Int))).2).1) (t9) (t10) (t11) ((List.getD t9 (Int.toNat t11) ((0 : Int), (0 : Int))).1) ((List.getD t9 (Int.toNat t11) ((0 : Int), (0 : Int))).2) with
  | some (((g0_1, n3_1, t9_1, t10_1, t11_1, _), _)) => k ((g0_1, n3_1, t9_1, t10_1, IntKind.wrap .i64 (t11_1 + (1 : Int)), ()), (()))
  | none => none)
 else none)
 else none)
 else none)
 else none)
 else kx (((n3, ()), (()))))
noncomputable def rd3 : Rd (VO s3) (Xs x3) := fun v k kx => match v with
  | ((g0, n3, t9, t10, t11, _), _) => R3 g0 n3 t9 t10 t11 k kx
noncomputable def F3 (g0 : (Option Gr)) (n3 : Int) (t9 : (List (Int × Int))) (t10 : Int) (t11 : Int) : Option X3 := finOf rd3 ((g0, n3, t9, t10, t11, ()), (()))
theorem F3_inv {g0 : (Option Gr)} {t9 : (List (Int × Int))} {t10 : Int} (I : Int → Int → Prop) (μ : Int → Int → Nat) (Q : X3 → Prop) (h : ∀ (n3 : Int) (t11 : Int), I n3 t11 → Led (fun (R : Type) (k : V3 → Option R) (kx : X3 → Option R) => R3 g0 n3 t9 t10 t11 k kx) (fun v => ∃ (n3' : Int) (t11' : Int), v = ((g0, n3', t9, t10, t11', ()), ()) ∧ I n3' t11' ∧ μ n3' t11' < μ n3 t11) Q) : ∀ (n3 : Int) (t11 : Int), I n3 t11 → ∃ z, F3 g0 n3 t9 t10 t11 = some z ∧ Q z := fun n3 t11 hi => by
  refine finOf_inv (V := V3) (X := X3) (rd := rd3) (fun v => ∃ (n3' : Int) (t11' : Int), v = ((g0, n3', t9, t10, t11', ()), ()) ∧ I n3' t11') (fun v => match v with
    | ((g0, n3, t9, t10, t11, _), _) => μ n3 t11) Q (fun v hv => ?_) ((g0, n3, t9, t10, t11, ()), ()) ⟨n3, t11, rfl, hi⟩
  obtain ⟨n3, t11, rfl, hi⟩ := hv
  refine led_mono (h n3 t11 hi) ?_ (fun _ q => q)
  rintro v ⟨n3', t11', rfl, h1, h2⟩
  exact ⟨⟨n3', t11', rfl, h1⟩, h2⟩
noncomputable def L3 : Lp := ⟨3, ⟨[(0, none), (3, none), (9, none), (10, none), (11, none)]⟩, s3, x3, fun v => match v with
  | ((g0, n3, t9, t10, t11, _), _) => F3 g0 n3 t9 t10 t11⟩
theorem ends3 : Ends L3 rd3 := ends_fin (fun v => by
  obtain ⟨⟨g0, n3, t9, t10, t11, _⟩, ⟨_⟩⟩ := v
  rfl)
noncomputable def env : Env := mkEnv tab6 [(35, Pairs.sig), (38, Neighbours.sig)] 0 [(5, [0, 1, 2, 4, 5, 6, 3, 7, 8, 9]), (10, [0, 1, 2, 3, 4, 5, 6, 7]), (12, [0, 1, 2, 3, 4, 5, 6, 7]), (7, [0, 1, 2, 3, 4, 5]), (9, [0, 1, 2, 3, 4, 5])] [L6, L3]
theorem round6 : RoundIs env (sub [true, true, false, true, false, false, true, true, false, false, true, true, false, false] code) L6 rd6 := fun R v k kx => by kernel_rfl
theorem round3 : RoundIs env (sub [true, true, false, true, false, false] code) L3 rd3 := fun R v k kx => by kernel_rfl
abbrev D : Type := (Int × Unit)
noncomputable def run' (g0 : (Option Gr)) : Option D := (if Pairs.pre g0 = Bool.true then (match F3 (g0) ((0 : Int)) ((Pairs.fn g0).1) ((↑(List.length (Pairs.fn g0).1) : Int)) ((0 : Int)) with
  | some (((n3_2, _), _)) => some (n3_2, ())
  | none => none)
 else none)
noncomputable def run (d : Ds (List.map PM.ty ps)) : Option (Ds (muts ps ++ List.map PM.ty rs)) := match d with
  | (g0, _) => run' g0
theorem run_is : ∀ d, runF env 65 code [2] ps rs d = run d := fun d => by kernel_rfl
theorem loops : LoopsOk env code := loopsOk_of (l := [[true, true, false, true, false, false], [true, true, false, true, false, false, true, true, false, false, true, true, false, false]]) (by kernel_rfl) (fun p hp => by
  simp only [List.mem_cons, List.not_mem_nil, or_false] at hp
  rcases hp with rfl | rfl
  · exact loopOk_lp (L := L3) (x := sub [true, true, false, true, false, false] code) (by kernel_rfl) (by simp [L3]) round3 ends3
  · exact loopOk_lp (L := L6) (x := sub [true, true, false, true, false, false, true, true, false, false, true, true, false, false] code) (by kernel_rfl) (by simp [L6]) round6 ends6
  )
noncomputable def pre (g0 : (Option Gr)) : Bool := (run' g0).isSome
noncomputable def fn (g0 : (Option Gr)) : D := match run' g0 with
  | some x => x
  | none => default
noncomputable def sig : Sig := ⟨ps, rs, fun d => match d with
  | (g0, _) => pre g0, fun d => match d with
  | (g0, _) => fn g0, false⟩
theorem run_fn (g0 : (Option Gr)) (h : pre g0 = true) : run' g0 = some (fn g0) := by
  unfold pre at h
  unfold fn
  cases e : run' g0 with
  | some x => rfl
  | none => rw [e] at h; cases h
theorem is_fn (g0 : (Option Gr)) {x : D} (h : run' g0 = some x) : pre g0 = true ∧ fn g0 = x := by
  unfold pre fn
  rw [h]
  exact ⟨rfl, rfl⟩
theorem sound {ρ : Obs} (hE : EnvOk Go.Proofs.Try.prog ρ env) : Sound Go.Proofs.Try.prog ρ 91 sig := sound_of (fn := Go.Proofs.Try.f91) (c := code) (res := [2]) hE (by kernel_rfl) (by kernel_rfl) (by kernel_rfl) (by kernel_rfl) (by kernel_rfl) loops rfl (show 1 ≤ 65 by decide) (fun d hd => (run_is d).trans (by
  obtain ⟨g0, _⟩ := d
  exact run_fn g0 hd))
theorem enters : Enters Go.Proofs.Try.prog 91 := enters_of (fn := Go.Proofs.Try.f91) (by kernel_rfl) (by kernel_rfl) (by kernel_rfl)
theorem ok {ρ : Obs} (h : ∀ p ∈ ([(35, Pairs.sig), (38, Neighbours.sig)] : List (FuncId × Sig)), Enters Go.Proofs.Try.prog p.1 ∧ Sound Go.Proofs.Try.prog ρ p.1 p.2) : Enters Go.Proofs.Try.prog 91 ∧ Sound Go.Proofs.Try.prog ρ 91 sig := ⟨enters, sound (envOk_of tab6Ok h)⟩
theorem okR : Enters Go.Proofs.Try.prog 91 ∧ Sound Go.Proofs.Try.prog rho 91 sig := ok (fun p hp => by
  simp only [List.mem_cons, List.not_mem_nil, or_false] at hp
  rcases hp with rfl | rfl
  · exact Pairs.okR
  · exact Neighbours.okR)
end TriP
namespace num6
abbrev ps : List PM := [.val I64]
abbrev rs : List PM := [.val I64]
noncomputable abbrev code : Code := (Go.Proofs.Try.f101.body.getD .skip)
noncomputable def env : Env := mkEnv tab6 [] 0 [] []
abbrev D : Type := (Int × Unit)
noncomputable def run' (e0 : Int) : Option D := some (e0, ())
noncomputable def run (d : Ds (List.map PM.ty ps)) : Option (Ds (muts ps ++ List.map PM.ty rs)) := match d with
  | (e0, _) => run' e0
theorem run_is : ∀ d, runF env 4 code [2] ps rs d = run d := fun d => by kernel_rfl
theorem loops : LoopsOk env code := loopsOk_of (l := []) (by kernel_rfl) (fun p hp => by
  cases hp)
noncomputable def pre (e0 : Int) : Bool := (run' e0).isSome
noncomputable def fn (e0 : Int) : D := match run' e0 with
  | some x => x
  | none => default
noncomputable def sig : Sig := ⟨ps, rs, fun d => match d with
  | (e0, _) => pre e0, fun d => match d with
  | (e0, _) => fn e0, false⟩
theorem run_fn (e0 : Int) (h : pre e0 = true) : run' e0 = some (fn e0) := by
  unfold pre at h
  unfold fn
  cases e : run' e0 with
  | some x => rfl
  | none => rw [e] at h; cases h
theorem is_fn (e0 : Int) {x : D} (h : run' e0 = some x) : pre e0 = true ∧ fn e0 = x := by
  unfold pre fn
  rw [h]
  exact ⟨rfl, rfl⟩
theorem sound {ρ : Obs} (hE : EnvOk Go.Proofs.Try.prog ρ env) : Sound Go.Proofs.Try.prog ρ 101 sig := sound_of (fn := Go.Proofs.Try.f101) (c := code) (res := [2]) hE (by kernel_rfl) (by kernel_rfl) (by kernel_rfl) (by kernel_rfl) (by kernel_rfl) loops rfl (show 1 ≤ 4 by decide) (fun d hd => (run_is d).trans (by
  obtain ⟨e0, _⟩ := d
  exact run_fn e0 hd))
theorem enters : Enters Go.Proofs.Try.prog 101 := enters_of (fn := Go.Proofs.Try.f101) (by kernel_rfl) (by kernel_rfl) (by kernel_rfl)
theorem ok {ρ : Obs} (h : ∀ p ∈ ([] : List (FuncId × Sig)), Enters Go.Proofs.Try.prog p.1 ∧ Sound Go.Proofs.Try.prog ρ p.1 p.2) : Enters Go.Proofs.Try.prog 101 ∧ Sound Go.Proofs.Try.prog ρ 101 sig := ⟨enters, sound (envOk_of tab6Ok h)⟩
theorem okR : Enters Go.Proofs.Try.prog 101 ∧ Sound Go.Proofs.Try.prog rho 101 sig := ok (fun p hp => by
  cases hp)
end num6
namespace chap6
abbrev ps : List PM := []
abbrev rs : List PM := [.val (.list Pr)]
noncomputable abbrev code : Code := (Go.Proofs.Try.f132.body.getD .skip)
noncomputable def env : Env := mkEnv tab6 [] 0 [] []
abbrev D : Type := ((List (Int × Int)) × Unit)
noncomputable def run' : Option D := some ([((0 : Int), (1 : Int)), ((0 : Int), (2 : Int)), ((1 : Int), (2 : Int)), ((2 : Int), (3 : Int)), ((3 : Int), (4 : Int))], ())
noncomputable def run (d : Ds (List.map PM.ty ps)) : Option (Ds (muts ps ++ List.map PM.ty rs)) := match d with
  | _ => run'
theorem run_is : ∀ d, runF env 7 code [0] ps rs d = run d := fun d => by kernel_rfl
theorem loops : LoopsOk env code := loopsOk_of (l := []) (by kernel_rfl) (fun p hp => by
  cases hp)
noncomputable def pre : Bool := (run').isSome
noncomputable def fn : D := match run' with
  | some x => x
  | none => default
noncomputable def sig : Sig := ⟨ps, rs, fun d => match d with
  | _ => pre, fun d => match d with
  | _ => fn, false⟩
theorem run_fn (h : pre = true) : run' = some (fn) := by
  unfold pre at h
  unfold fn
  cases e : run' with
  | some x => rfl
  | none => rw [e] at h; cases h
theorem is_fn {x : D} (h : run' = some x) : pre = true ∧ fn = x := by
  unfold pre fn
  rw [h]
  exact ⟨rfl, rfl⟩
theorem sound {ρ : Obs} (hE : EnvOk Go.Proofs.Try.prog ρ env) : Sound Go.Proofs.Try.prog ρ 132 sig := sound_of (fn := Go.Proofs.Try.f132) (c := code) (res := [0]) hE (by kernel_rfl) (by kernel_rfl) (by kernel_rfl) (by kernel_rfl) (by kernel_rfl) loops rfl (show 0 ≤ 7 by decide) (fun d hd => (run_is d).trans (by
  exact run_fn hd))
theorem enters : Enters Go.Proofs.Try.prog 132 := enters_of (fn := Go.Proofs.Try.f132) (by kernel_rfl) (by kernel_rfl) (by kernel_rfl)
theorem ok {ρ : Obs} (h : ∀ p ∈ ([] : List (FuncId × Sig)), Enters Go.Proofs.Try.prog p.1 ∧ Sound Go.Proofs.Try.prog ρ p.1 p.2) : Enters Go.Proofs.Try.prog 132 ∧ Sound Go.Proofs.Try.prog ρ 132 sig := ⟨enters, sound (envOk_of tab6Ok h)⟩
theorem okR : Enters Go.Proofs.Try.prog 132 ∧ Sound Go.Proofs.Try.prog rho 132 sig := ok (fun p hp => by
  cases hp)
end chap6
namespace first6
abbrev ps : List PM := []
abbrev rs : List PM := [.val .bool]
noncomputable abbrev code : Code := (Go.Proofs.Try.f80.body.getD .skip)
noncomputable def env : Env := mkEnv tab6 [(53, SameIntsH.sig), (82, Cores.sig), (84, OrderP.sig), (86, OnionP.sig), (91, TriP.sig), (95, DstP.sig), (101, num6.sig), (105, Make.sig), (132, chap6.sig)] 0 [] []
abbrev D : Type := (Bool × Unit)
noncomputable def run' : Option D := (if chap6.pre = Bool.true then (if Make.pre (6 : Int) chap6.fn.1 = Bool.true then (if num6.pre (Make.fn (6 : Int) chap6.fn.1).2.1 = Bool.true then (if ((num6.fn (Make.fn (6 : Int) chap6.fn.1).2.1).1 != (0 : Int)) = Bool.false then (if Option.isNone (Make.fn (6 : Int) chap6.fn.1).1 = Bool.true then some (Bool.false, ())
 else (if Cores.pre (Make.fn (6 : Int) chap6.fn.1).1 = Bool.true then (if SameIntsH.pre (Cores.fn (Make.fn (6 : Int) chap6.fn.1).1).1 [(2 : Int), (2 : Int), (2 : Int), (1 : Int), (1 : Int), (0 : Int)] = Bool.true then (if OrderP.pre (Make.fn (6 : Int) chap6.fn.1).1 = Bool.true then (if SameIntsH.pre (OrderP.fn (Make.fn (6 : Int) chap6.fn.1).1).1 [(5 : Int), (4 : Int), (3 : Int), (0 : Int), (1 : Int), (2 : Int)] = Bool.true then (if OnionP.pre (Make.fn (6 : Int) chap6.fn.1).1 = Bool.true then (if SameIntsH.pre (OnionP.fn (Make.fn (6 : Int) chap6.fn.1).1).1 [(4 : Int), (4 : Int), (4 : Int), (3 : Int), (2 : Int), (1 : Int)] = Bool.true then (if DstP.pre (Make.fn (6 : Int) chap6.fn.1).1 = Bool.true then (if (SameIntsH.fn (Cores.fn (Make.fn (6 : Int) chap6.fn.1).1).1 [(2 : Int), (2 : Int), (2 : Int), (1 : Int), (1 : Int), (0 : Int)]).1 = Bool.true then (if (SameIntsH.fn (OrderP.fn (Make.fn (6 : Int) chap6.fn.1).1).1 [(5 : Int), (4 : Int), (3 : Int), (0 : Int), (1 : Int), (2 : Int)]).1 = Bool.true then (if (SameIntsH.fn (OnionP.fn (Make.fn (6 : Int) chap6.fn.1).1).1 [(4 : Int), (4 : Int), (4 : Int), (3 : Int), (2 : Int), (1 : Int)]).1 = Bool.true then (if ((DstP.fn (Make.fn (6 : Int) chap6.fn.1).1).1 == (2 : Int)) = Bool.true then (if (Ieee.Format.order (Go.FloatKind.format Go.FloatKind.f64) (DstP.fn (Make.fn (6 : Int) chap6.fn.1).1).2.1 (4607182418800017408 : Nat) == Option.some Ordering.eq) = Bool.true then (if TriP.pre (Make.fn (6 : Int) chap6.fn.1).1 = Bool.true then some ((TriP.fn (Make.fn (6 : Int) chap6.fn.1).1).1 == (1 : Int), ())
 else none)
 else some (Bool.false, ()))
 else some (Bool.false, ()))
 else some (Bool.false, ()))
 else some (Bool.false, ()))
 else some (Bool.false, ()))
 else none)
 else none)
 else none)
 else none)
 else none)
 else none)
 else none))
 else some (Bool.false, ()))
 else none)
 else none)
 else none)
noncomputable def run (d : Ds (List.map PM.ty ps)) : Option (Ds (muts ps ++ List.map PM.ty rs)) := match d with
  | _ => run'
theorem run_is : ∀ d, runF env 57 code [0] ps rs d = run d := fun d => by kernel_rfl
theorem loops : LoopsOk env code := loopsOk_of (l := []) (by kernel_rfl) (fun p hp => by
  cases hp)
noncomputable def pre : Bool := (run').isSome
noncomputable def fn : D := match run' with
  | some x => x
  | none => default
noncomputable def sig : Sig := ⟨ps, rs, fun d => match d with
  | _ => pre, fun d => match d with
  | _ => fn, false⟩
theorem run_fn (h : pre = true) : run' = some (fn) := by
  unfold pre at h
  unfold fn
  cases e : run' with
  | some x => rfl
  | none => rw [e] at h; cases h
theorem is_fn {x : D} (h : run' = some x) : pre = true ∧ fn = x := by
  unfold pre fn
  rw [h]
  exact ⟨rfl, rfl⟩
theorem sound {ρ : Obs} (hE : EnvOk Go.Proofs.Try.prog ρ env) : Sound Go.Proofs.Try.prog ρ 80 sig := sound_of (fn := Go.Proofs.Try.f80) (c := code) (res := [0]) hE (by kernel_rfl) (by kernel_rfl) (by kernel_rfl) (by kernel_rfl) (by kernel_rfl) loops rfl (show 0 ≤ 57 by decide) (fun d hd => (run_is d).trans (by
  exact run_fn hd))
theorem enters : Enters Go.Proofs.Try.prog 80 := enters_of (fn := Go.Proofs.Try.f80) (by kernel_rfl) (by kernel_rfl) (by kernel_rfl)
theorem ok {ρ : Obs} (h : ∀ p ∈ ([(53, SameIntsH.sig), (82, Cores.sig), (84, OrderP.sig), (86, OnionP.sig), (91, TriP.sig), (95, DstP.sig), (101, num6.sig), (105, Make.sig), (132, chap6.sig)] : List (FuncId × Sig)), Enters Go.Proofs.Try.prog p.1 ∧ Sound Go.Proofs.Try.prog ρ p.1 p.2) : Enters Go.Proofs.Try.prog 80 ∧ Sound Go.Proofs.Try.prog ρ 80 sig := ⟨enters, sound (envOk_of tab6Ok h)⟩
theorem okR : Enters Go.Proofs.Try.prog 80 ∧ Sound Go.Proofs.Try.prog rho 80 sig := ok (fun p hp => by
  simp only [List.mem_cons, List.not_mem_nil, or_false] at hp
  rcases hp with rfl | rfl | rfl | rfl | rfl | rfl | rfl | rfl | rfl
  · exact SameIntsH.okR
  · exact Cores.okR
  · exact OrderP.okR
  · exact OnionP.okR
  · exact TriP.okR
  · exact DstP.okR
  · exact num6.okR
  · exact Make.okR
  · exact chap6.okR)
end first6
namespace made6
abbrev ps : List PM := [.val I64, .val (.list Pr)]
abbrev rs : List PM := [.val (.obj 0), .val (.ptr Rf)]
noncomputable abbrev code : Code := (Go.Proofs.Try.f81.body.getD .skip)
abbrev s4 : Shape := ⟨[.v I64, .v (.list (.pair I64 I64)), .un, .un, .un, .un, .row 0, .v I64, .un, .un, .un, .un, .un, .un, .un, .un, .un, .un, .un, .un, .un, .un, .un, .un, .un, .un, .un, .un, .un, .un, .un, .un, .un, .un, .un, .un, .un, .un, .un, .un, .un, .un, .un, .un, .un, .un, .un, .un, .un, .un, .un, .un, .un, .un, .un, .un, .un, .un, .un, .un, .un, .un, .un, .un, .un, .un, .un, .un, .un, .un, .un, .un, .un, .un, .un, .un, .un, .un, .un, .un, .un, .un, .un, .un], [.row (32 : Go.TypeId) (.pair I64 I64)]⟩
abbrev x4 : List Way := [⟨(.ex 0), ⟨[(0, none), (6, some (.inl ((32 : Go.TypeId), (.pair I64 I64))))]⟩, ⟨[.v I64, .un, .un, .un, .un, .un, .row 0, .un, .un, .un, .un, .un, .un, .un, .un, .un, .un, .un, .un, .un, .un, .un, .un, .un, .un, .un, .un, .un, .un, .un, .un, .un, .un, .un, .un, .un, .un, .un, .un, .un, .un, .un, .un, .un, .un, .un, .un, .un, .un, .un, .un, .un, .un, .un, .un, .un, .un, .un, .un, .un, .un, .un, .un, .un, .un, .un, .un, .un, .un, .un, .un, .un, .un, .un, .un, .un, .un, .un, .un, .un, .un, .un, .un, .un], [.row (32 : Go.TypeId) (.pair I64 I64)]⟩⟩]
abbrev V4 : Type := (Int × (List (Int × Int)) × Int × Unit) × ((List (Int × Int)) × Unit)
abbrev X4 : Type := (Int × Unit) × ((List (Int × Int)) × Unit)
noncomputable def R4 {R : Type} (n0 : Int) (l1 : (List (Int × Int))) (i7 : Int) (r0 : List (Int × Int)) (k : V4 → Option R) (kx : X4 → Option R) : Option R := (if Decidable.decide (i7 < (↑(List.length l1) : Int)) = Bool.true then (if Decidable.decide (i7 < (2000 : Int)) = Bool.true then (if (0 : Int) ≤ i7 then (if i7 < (↑(List.length l1) : Int) then (if Decidable.decide ((List.getD l1 (Int.toNat i7) ((0 : Int), (0 : Int))).1 ≥ (0 : Int)) = Bool.true then (if (0 : Int) ≤ i7 then (if i7 < (↑(List.length l1) : Int) then (if Decidable.decide ((List.getD l1 (Int.toNat i7) ((0 : Int), (0 : Int))).1 < n0) = Bool.true then (if (0 : Int) ≤ i7 then (if i7 < (↑(List.length l1) : Int) then (if Decidable.decide ((List.getD l1 (Int.toNat i7) ((0 : Int), (0 : Int))).2 ≥ (0 : Int)) = Bool.true then (if (0 : Int) ≤ i7 then (if i7 < (↑(List.length l1) : Int) then (if Decidable.decide ((List.getD l1 (Int.toNat i7) ((0 : Int), (0 : Int))).2 < n0) = Bool.true then (if (0 : Int) ≤ i7 then (if i7 < (↑(List.length l1) : Int) then (if (List.length r0 + List.length [List.getD l1 (Int.toNat i7) ((0 : Int), (0 : Int))]) * (16 : Nat) ≤ (140737488355328 : Nat) then k ((n0, l1, IntKind.wrap .i64 (i7 + (1 : Int)), ()), (r0 ++ [List.getD l1 (Int.toNat i7) ((0 : Int), (0 : Int))], ()))
 else none)
 else none)
 else none)
 else k ((n0, l1, IntKind.wrap .i64 (i7 + (1 : Int)), ()), (r0, ())))
 else none)
 else none)
 else k ((n0, l1, IntKind.wrap .i64 (i7 + (1 : Int)), ()), (r0, ())))
 else none)
 else none)
 else k ((n0, l1, IntKind.wrap .i64 (i7 + (1 : Int)), ()), (r0, ())))
 else none)
 else none)
 else k ((n0, l1, IntKind.wrap .i64 (i7 + (1 : Int)), ()), (r0, ())))
 else none)
 else none)
 else kx (((n0, ()), (r0, ()))))
 else kx (((n0, ()), (r0, ()))))
noncomputable def rd4 : Rd (VO s4) (Xs x4) := fun v k kx => match v with
  | ((n0, l1, i7, _), (r0, _)) => R4 n0 l1 i7 r0 k kx
noncomputable def F4 (n0 : Int) (l1 : (List (Int × Int))) (i7 : Int) (r0 : List (Int × Int)) : Option X4 := finOf rd4 ((n0, l1, i7, ()), (r0, ()))
theorem F4_inv {n0 : Int} {l1 : (List (Int × Int))} (I : Int → List (Int × Int) → Prop) (μ : Int → List (Int × Int) → Nat) (Q : X4 → Prop) (h : ∀ (i7 : Int) (r0 : List (Int × Int)), I i7 r0 → Led (fun (R : Type) (k : V4 → Option R) (kx : X4 → Option R) => R4 n0 l1 i7 r0 k kx) (fun v => ∃ (i7' : Int) (r0' : List (Int × Int)), v = ((n0, l1, i7', ()), (r0', ())) ∧ I i7' r0' ∧ μ i7' r0' < μ i7 r0) Q) : ∀ (i7 : Int) (r0 : List (Int × Int)), I i7 r0 → ∃ z, F4 n0 l1 i7 r0 = some z ∧ Q z := fun i7 r0 hi => by
  refine finOf_inv (V := V4) (X := X4) (rd := rd4) (fun v => ∃ (i7' : Int) (r0' : List (Int × Int)), v = ((n0, l1, i7', ()), (r0', ())) ∧ I i7' r0') (fun v => match v with
    | ((n0, l1, i7, _), (r0, _)) => μ i7 r0) Q (fun v hv => ?_) ((n0, l1, i7, ()), (r0, ())) ⟨i7, r0, rfl, hi⟩
  obtain ⟨i7, r0, rfl, hi⟩ := hv
  refine led_mono (h i7 r0 hi) ?_ (fun _ q => q)
  rintro v ⟨i7', r0', rfl, h1, h2⟩
  exact ⟨⟨i7', r0', rfl, h1⟩, h2⟩
noncomputable def L4 : Lp := ⟨4, ⟨[(0, none), (1, none), (6, some (.inl ((32 : Go.TypeId), (.pair I64 I64)))), (7, none)]⟩, s4, x4, fun v => match v with
  | ((n0, l1, i7, _), (r0, _)) => F4 n0 l1 i7 r0⟩
theorem ends4 : Ends L4 rd4 := ends_fin (fun v => by
  obtain ⟨⟨n0, l1, i7, _⟩, ⟨r0, _⟩⟩ := v
  rfl)
noncomputable def env : Env := mkEnv tab6 [(101, num6.sig), (105, Make.sig), (112, Make5.sig)] 0 [] [L4]
theorem round4 : RoundIs env (sub [true, true, true, false, true, false, false] code) L4 rd4 := fun R v k kx => by kernel_rfl
abbrev D : Type := ((Option Gr) × (Option (List (List Int))) × Unit)
noncomputable def run' (n0 : Int) (l1 : (List (Int × Int))) : Option D := (match F4 (Int.tmod (IntKind.wrap .i64 (IntKind.wrap .i64 (Int.tmod n0 (121 : Int) + (120 : Int)) + (1 : Int))) (121 : Int)) (l1) ((0 : Int)) ([]) with
  | some (((n0_1, _), (r0_1, _))) => (if Make.pre n0_1 r0_1 = Bool.true then (if Make5.pre n0_1 r0_1 = Bool.true then (if num6.pre (Make.fn n0_1 r0_1).2.1 = Bool.true then (if ((num6.fn (Make.fn n0_1 r0_1).2.1).1 != (0 : Int)) = Bool.true then some (Option.none, (Make5.fn n0_1 r0_1).1, ())
 else some ((Make.fn n0_1 r0_1).1, (Make5.fn n0_1 r0_1).1, ()))
 else none)
 else none)
 else none)
  | none => none)
noncomputable def run (d : Ds (List.map PM.ty ps)) : Option (Ds (muts ps ++ List.map PM.ty rs)) := match d with
  | (n0, l1, _) => run' n0 l1
theorem run_is : ∀ d, runF env 84 code [4, 5] ps rs d = run d := fun d => by kernel_rfl
theorem loops : LoopsOk env code := loopsOk_of (l := [[true, true, true, false, true, false, false]]) (by kernel_rfl) (fun p hp => by
  simp only [List.mem_cons, List.not_mem_nil, or_false] at hp
  rcases hp with rfl
  · exact loopOk_lp (L := L4) (x := sub [true, true, true, false, true, false, false] code) (by kernel_rfl) (by simp [L4]) round4 ends4
  )
noncomputable def pre (n0 : Int) (l1 : (List (Int × Int))) : Bool := (run' n0 l1).isSome
noncomputable def fn (n0 : Int) (l1 : (List (Int × Int))) : D := match run' n0 l1 with
  | some x => x
  | none => default
noncomputable def sig : Sig := ⟨ps, rs, fun d => match d with
  | (n0, l1, _) => pre n0 l1, fun d => match d with
  | (n0, l1, _) => fn n0 l1, false⟩
theorem run_fn (n0 : Int) (l1 : (List (Int × Int))) (h : pre n0 l1 = true) : run' n0 l1 = some (fn n0 l1) := by
  unfold pre at h
  unfold fn
  cases e : run' n0 l1 with
  | some x => rfl
  | none => rw [e] at h; cases h
theorem is_fn (n0 : Int) (l1 : (List (Int × Int))) {x : D} (h : run' n0 l1 = some x) : pre n0 l1 = true ∧ fn n0 l1 = x := by
  unfold pre fn
  rw [h]
  exact ⟨rfl, rfl⟩
theorem sound {ρ : Obs} (hE : EnvOk Go.Proofs.Try.prog ρ env) : Sound Go.Proofs.Try.prog ρ 81 sig := sound_of (fn := Go.Proofs.Try.f81) (c := code) (res := [4, 5]) hE (by kernel_rfl) (by kernel_rfl) (by kernel_rfl) (by kernel_rfl) (by kernel_rfl) loops rfl (show 2 ≤ 84 by decide) (fun d hd => (run_is d).trans (by
  obtain ⟨n0, l1, _⟩ := d
  exact run_fn n0 l1 hd))
theorem enters : Enters Go.Proofs.Try.prog 81 := enters_of (fn := Go.Proofs.Try.f81) (by kernel_rfl) (by kernel_rfl) (by kernel_rfl)
theorem ok {ρ : Obs} (h : ∀ p ∈ ([(101, num6.sig), (105, Make.sig), (112, Make5.sig)] : List (FuncId × Sig)), Enters Go.Proofs.Try.prog p.1 ∧ Sound Go.Proofs.Try.prog ρ p.1 p.2) : Enters Go.Proofs.Try.prog 81 ∧ Sound Go.Proofs.Try.prog ρ 81 sig := ⟨enters, sound (envOk_of tab6Ok h)⟩
theorem okR : Enters Go.Proofs.Try.prog 81 ∧ Sound Go.Proofs.Try.prog rho 81 sig := ok (fun p hp => by
  simp only [List.mem_cons, List.not_mem_nil, or_false] at hp
  rcases hp with rfl | rfl | rfl
  · exact num6.okR
  · exact Make.okR
  · exact Make5.okR)
end made6
namespace greatL
abbrev ps : List PM := [.val (.list I64)]
abbrev rs : List PM := [.val I64]
noncomputable abbrev code : Code := (Go.Proofs.Try.f97.body.getD .skip)
abbrev s3 : Shape := ⟨[.v (.list I64), .un, .un, .v I64, .v I64, .un, .un, .un, .un, .un, .un, .un, .un, .un, .un, .un, .un, .un], []⟩
abbrev x3 : List Way := [⟨(.ex 0), ⟨[(3, none)]⟩, ⟨[.un, .un, .un, .v I64, .un, .un, .un, .un, .un, .un, .un, .un, .un, .un, .un, .un, .un, .un], []⟩⟩]
abbrev V3 : Type := ((List Int) × Int × Int × Unit) × (Unit)
abbrev X3 : Type := (Int × Unit) × (Unit)
noncomputable def R3 {R : Type} (l0 : (List Int)) (n3 : Int) (i4 : Int) (k : V3 → Option R) (kx : X3 → Option R) : Option R := (if Decidable.decide (i4 < (↑(List.length l0) : Int)) = Bool.true then (if (0 : Int) ≤ i4 then (if i4 < (↑(List.length l0) : Int) then k ((l0, if List.getD l0 (Int.toNat i4) (0 : Int) > n3 then List.getD l0 (Int.toNat i4) (0 : Int) else n3, IntKind.wrap .i64 (i4 + (1 : Int)), ()), (()))
 else none)
 else none)
 else kx (((n3, ()), (()))))
noncomputable def rd3 : Rd (VO s3) (Xs x3) := fun v k kx => match v with
  | ((l0, n3, i4, _), _) => R3 l0 n3 i4 k kx
noncomputable def F3 (l0 : (List Int)) (n3 : Int) (i4 : Int) : Option X3 := finOf rd3 ((l0, n3, i4, ()), (()))
theorem F3_inv {l0 : (List Int)} (I : Int → Int → Prop) (μ : Int → Int → Nat) (Q : X3 → Prop) (h : ∀ (n3 : Int) (i4 : Int), I n3 i4 → Led (fun (R : Type) (k : V3 → Option R) (kx : X3 → Option R) => R3 l0 n3 i4 k kx) (fun v => ∃ (n3' : Int) (i4' : Int), v = ((l0, n3', i4', ()), ()) ∧ I n3' i4' ∧ μ n3' i4' < μ n3 i4) Q) : ∀ (n3 : Int) (i4 : Int), I n3 i4 → ∃ z, F3 l0 n3 i4 = some z ∧ Q z := fun n3 i4 hi => by
  refine finOf_inv (V := V3) (X := X3) (rd := rd3) (fun v => ∃ (n3' : Int) (i4' : Int), v = ((l0, n3', i4', ()), ()) ∧ I n3' i4') (fun v => match v with
    | ((l0, n3, i4, _), _) => μ n3 i4) Q (fun v hv => ?_) ((l0, n3, i4, ()), ()) ⟨n3, i4, rfl, hi⟩
  obtain ⟨n3, i4, rfl, hi⟩ := hv
  refine led_mono (h n3 i4 hi) ?_ (fun _ q => q)
  rintro v ⟨n3', i4', rfl, h1, h2⟩
  exact ⟨⟨n3', i4', rfl, h1⟩, h2⟩
noncomputable def L3 : Lp := ⟨3, ⟨[(0, none), (3, none), (4, none)]⟩, s3, x3, fun v => match v with
  | ((l0, n3, i4, _), _) => F3 l0 n3 i4⟩
theorem ends3 : Ends L3 rd3 := ends_fin (fun v => by
  obtain ⟨⟨l0, n3, i4, _⟩, ⟨_⟩⟩ := v
  rfl)
noncomputable def env : Env := mkEnv tab6 [] 0 [] [L3]
theorem round3 : RoundIs env (sub [true, true, false, true, false, false] code) L3 rd3 := fun R v k kx => by kernel_rfl
abbrev D : Type := (Int × Unit)
noncomputable def run' (l0 : (List Int)) : Option D := (match F3 (l0) ((0 : Int)) ((0 : Int)) with
  | some (((n3_1, _), _)) => some (n3_1, ())
  | none => none)
noncomputable def run (d : Ds (List.map PM.ty ps)) : Option (Ds (muts ps ++ List.map PM.ty rs)) := match d with
  | (l0, _) => run' l0
theorem run_is : ∀ d, runF env 18 code [2] ps rs d = run d := fun d => by kernel_rfl
theorem loops : LoopsOk env code := loopsOk_of (l := [[true, true, false, true, false, false]]) (by kernel_rfl) (fun p hp => by
  simp only [List.mem_cons, List.not_mem_nil, or_false] at hp
  rcases hp with rfl
  · exact loopOk_lp (L := L3) (x := sub [true, true, false, true, false, false] code) (by kernel_rfl) (by simp [L3]) round3 ends3
  )
noncomputable def pre (l0 : (List Int)) : Bool := (run' l0).isSome
noncomputable def fn (l0 : (List Int)) : D := match run' l0 with
  | some x => x
  | none => default
noncomputable def sig : Sig := ⟨ps, rs, fun d => match d with
  | (l0, _) => pre l0, fun d => match d with
  | (l0, _) => fn l0, false⟩
theorem run_fn (l0 : (List Int)) (h : pre l0 = true) : run' l0 = some (fn l0) := by
  unfold pre at h
  unfold fn
  cases e : run' l0 with
  | some x => rfl
  | none => rw [e] at h; cases h
theorem is_fn (l0 : (List Int)) {x : D} (h : run' l0 = some x) : pre l0 = true ∧ fn l0 = x := by
  unfold pre fn
  rw [h]
  exact ⟨rfl, rfl⟩
theorem sound {ρ : Obs} (hE : EnvOk Go.Proofs.Try.prog ρ env) : Sound Go.Proofs.Try.prog ρ 97 sig := sound_of (fn := Go.Proofs.Try.f97) (c := code) (res := [2]) hE (by kernel_rfl) (by kernel_rfl) (by kernel_rfl) (by kernel_rfl) (by kernel_rfl) loops rfl (show 1 ≤ 18 by decide) (fun d hd => (run_is d).trans (by
  obtain ⟨l0, _⟩ := d
  exact run_fn l0 hd))
theorem enters : Enters Go.Proofs.Try.prog 97 := enters_of (fn := Go.Proofs.Try.f97) (by kernel_rfl) (by kernel_rfl) (by kernel_rfl)
theorem ok {ρ : Obs} (h : ∀ p ∈ ([] : List (FuncId × Sig)), Enters Go.Proofs.Try.prog p.1 ∧ Sound Go.Proofs.Try.prog ρ p.1 p.2) : Enters Go.Proofs.Try.prog 97 ∧ Sound Go.Proofs.Try.prog ρ 97 sig := ⟨enters, sound (envOk_of tab6Ok h)⟩
theorem okR : Enters Go.Proofs.Try.prog 97 ∧ Sound Go.Proofs.Try.prog rho 97 sig := ok (fun p hp => by
  cases hp)
end greatL
namespace shufL
abbrev ps : List PM := [.val I64, .val (.list I64)]
abbrev rs : List PM := [.own 3 I64]
noncomputable abbrev code : Code := (Go.Proofs.Try.f103.body.getD .skip)
abbrev s3 : Shape := ⟨[.v I64, .v (.list I64), .un, .un, .un, .row 0, .v I64, .un, .un, .un, .un, .un, .un, .un, .un, .un, .un, .un, .un, .un, .un, .un, .un, .un, .un, .un, .un, .un, .un, .un, .un, .un, .un, .un, .un, .un, .un, .un, .un, .un, .un, .un, .un, .un, .un, .un, .un, .un, .un, .un, .un, .un, .un, .un], [.row (3 : Go.TypeId) I64]⟩
abbrev x3 : List Way := [⟨(.ex 0), ⟨[(0, none), (1, none), (5, some (.inl ((3 : Go.TypeId), I64)))]⟩, ⟨[.v I64, .v (.list I64), .un, .un, .un, .row 0, .un, .un, .un, .un, .un, .un, .un, .un, .un, .un, .un, .un, .un, .un, .un, .un, .un, .un, .un, .un, .un, .un, .un, .un, .un, .un, .un, .un, .un, .un, .un, .un, .un, .un, .un, .un, .un, .un, .un, .un, .un, .un, .un, .un, .un, .un, .un, .un], [.row (3 : Go.TypeId) I64]⟩⟩]
abbrev V3 : Type := (Int × (List Int) × Int × Unit) × ((List Int) × Unit)
abbrev X3 : Type := (Int × (List Int) × Unit) × ((List Int) × Unit)
noncomputable def R3 {R : Type} (n0 : Int) (order1 : (List Int)) (i6 : Int) (r0 : List Int) (k : V3 → Option R) (kx : X3 → Option R) : Option R := (if Decidable.decide (i6 < n0) = Bool.true then (if (List.length r0 + List.length [i6]) * (8 : Nat) ≤ (140737488355328 : Nat) then k ((n0, order1, IntKind.wrap .i64 (i6 + (1 : Int)), ()), (r0 ++ [i6], ()))
 else none)
 else kx (((n0, order1, ()), (r0, ()))))
noncomputable def rd3 : Rd (VO s3) (Xs x3) := fun v k kx => match v with
  | ((n0, order1, i6, _), (r0, _)) => R3 n0 order1 i6 r0 k kx
noncomputable def F3 (n0 : Int) (order1 : (List Int)) (i6 : Int) (r0 : List Int) : Option X3 := finOf rd3 ((n0, order1, i6, ()), (r0, ()))
theorem F3_inv {n0 : Int} {order1 : (List Int)} (I : Int → List Int → Prop) (μ : Int → List Int → Nat) (Q : X3 → Prop) (h : ∀ (i6 : Int) (r0 : List Int), I i6 r0 → Led (fun (R : Type) (k : V3 → Option R) (kx : X3 → Option R) => R3 n0 order1 i6 r0 k kx) (fun v => ∃ (i6' : Int) (r0' : List Int), v = ((n0, order1, i6', ()), (r0', ())) ∧ I i6' r0' ∧ μ i6' r0' < μ i6 r0) Q) : ∀ (i6 : Int) (r0 : List Int), I i6 r0 → ∃ z, F3 n0 order1 i6 r0 = some z ∧ Q z := fun i6 r0 hi => by
  refine finOf_inv (V := V3) (X := X3) (rd := rd3) (fun v => ∃ (i6' : Int) (r0' : List Int), v = ((n0, order1, i6', ()), (r0', ())) ∧ I i6' r0') (fun v => match v with
    | ((n0, order1, i6, _), (r0, _)) => μ i6 r0) Q (fun v hv => ?_) ((n0, order1, i6, ()), (r0, ())) ⟨i6, r0, rfl, hi⟩
  obtain ⟨i6, r0, rfl, hi⟩ := hv
  refine led_mono (h i6 r0 hi) ?_ (fun _ q => q)
  rintro v ⟨i6', r0', rfl, h1, h2⟩
  exact ⟨⟨i6', r0', rfl, h1⟩, h2⟩
noncomputable def L3 : Lp := ⟨3, ⟨[(0, none), (1, none), (5, some (.inl ((3 : Go.TypeId), I64))), (6, none)]⟩, s3, x3, fun v => match v with
  | ((n0, order1, i6, _), (r0, _)) => F3 n0 order1 i6 r0⟩
theorem ends3 : Ends L3 rd3 := ends_fin (fun v => by
  obtain ⟨⟨n0, order1, i6, _⟩, ⟨r0, _⟩⟩ := v
  rfl)
abbrev s7 : Shape := ⟨[.v I64, .v (.list I64), .un, .un, .un, .row 0, .un, .v I64, .un, .un, .un, .un, .un, .un, .un, .un, .un, .un, .un, .un, .un, .un, .un, .un, .un, .un, .un, .un, .un, .un, .un, .un, .un, .un, .un, .un, .un, .un, .un, .un, .un, .un, .un, .un, .un, .un, .un, .un, .un, .un, .un, .un, .un, .un], [.row (3 : Go.TypeId) I64]⟩
abbrev x7 : List Way := [⟨(.ex 2), ⟨[(5, none)]⟩, ⟨[.un, .un, .un, .un, .un, .row 0, .un, .un, .un, .un, .un, .un, .un, .un, .un, .un, .un, .un, .un, .un, .un, .un, .un, .un, .un, .un, .un, .un, .un, .un, .un, .un, .un, .un, .un, .un, .un, .un, .un, .un, .un, .un, .un, .un, .un, .un, .un, .un, .un, .un, .un, .un, .un, .un], [.row (3 : Go.TypeId) I64]⟩⟩]
abbrev V7 : Type := (Int × (List Int) × Int × Unit) × ((List Int) × Unit)
abbrev X7 : Type := (Unit) × ((List Int) × Unit)
noncomputable def R7 {R : Type} (n0 : Int) (order1 : (List Int)) (i7 : Int) (r0 : List Int) (k : V7 → Option R) (kx : X7 → Option R) : Option R := (if Decidable.decide (i7 < n0) = Bool.true then (if Decidable.decide (i7 < (↑(List.length order1) : Int)) = Bool.true then (if (0 : Int) ≤ i7 then (if i7 < (↑(List.length order1) : Int) then (if n0 = (0 : Int) then none
 else (if n0 = (0 : Int) then none
 else (if (0 : Int) ≤ Int.tmod (IntKind.wrap .i64 (Int.tmod (List.getD order1 (Int.toNat i7) (0 : Int)) n0 + n0)) n0 then (if Int.tmod (IntKind.wrap .i64 (Int.tmod (List.getD order1 (Int.toNat i7) (0 : Int)) n0 + n0)) n0 < (↑(List.length r0) : Int) then (if (0 : Int) ≤ i7 then (if i7 < (↑(List.length r0) : Int) then (if (0 : Int) ≤ i7 then (if i7 < (↑(List.length r0) : Int) then (if Int.toNat i7 < List.length r0 then (if (0 : Int) ≤ Int.tmod (IntKind.wrap .i64 (Int.tmod (List.getD order1 (Int.toNat i7) (0 : Int)) n0 + n0)) n0 then (if Int.tmod (IntKind.wrap .i64 (Int.tmod (List.getD order1 (Int.toNat i7) (0 : Int)) n0 + n0)) n0 < (↑(List.length (List.set r0 (Int.toNat i7) (List.getD r0 (Int.toNat (Int.tmod (IntKind.wrap .i64 (Int.tmod (List.getD order1 (Int.toNat i7) (0 : Int)) n0 + n0)) n0)) (0 : Int)))) : Int) then (if Int.toNat (Int.tmod (IntKind.wrap .i64 (Int.tmod (List.getD order1 (Int.toNat i7) (0 : Int)) n0 + n0)) n0) < List.length (List.set r0 (Int.toNat i7) (List.getD r0 (Int.toNat (Int.tmod (IntKind.wrap .i64 (Int.tmod (List.getD order1 (Int.toNat i7) (0 : Int)) n0 + n0)) n0)) (0 : Int))) then k ((n0, order1, IntKind.wrap .i64 (i7 + (1 : Int)), ()), (List.set (List.set r0 (Int.toNat i7) (List.getD r0 (Int.toNat (Int.tmod (IntKind.wrap .i64 (Int.tmod (List.getD order1 (Int.toNat i7) (0 : Int)) n0 + n0)) n0)) (0 : Int))) (Int.toNat (Int.tmod (IntKind.wrap .i64 (Int.tmod (List.getD order1 (Int.toNat i7) (0 : Int)) n0 + n0)) n0)) (List.getD r0 (Int.toNat i7) (0 : Int)), ()))
 else none)
 else none)
 else none)
 else none)
 else none)
 else none)
 else none)
 else none)
 else none)
 else none)))
 else none)
 else none)
 else kx (((()), (r0, ()))))
 else kx (((()), (r0, ()))))
noncomputable def rd7 : Rd (VO s7) (Xs x7) := fun v k kx => match v with
  | ((n0, order1, i7, _), (r0, _)) => R7 n0 order1 i7 r0 k kx
noncomputable def F7 (n0 : Int) (order1 : (List Int)) (i7 : Int) (r0 : List Int) : Option X7 := finOf rd7 ((n0, order1, i7, ()), (r0, ()))
theorem F7_inv {n0 : Int} {order1 : (List Int)} (I : Int → List Int → Prop) (μ : Int → List Int → Nat) (Q : X7 → Prop) (h : ∀ (i7 : Int) (r0 : List Int), I i7 r0 → Led (fun (R : Type) (k : V7 → Option R) (kx : X7 → Option R) => R7 n0 order1 i7 r0 k kx) (fun v => ∃ (i7' : Int) (r0' : List Int), v = ((n0, order1, i7', ()), (r0', ())) ∧ I i7' r0' ∧ μ i7' r0' < μ i7 r0) Q) : ∀ (i7 : Int) (r0 : List Int), I i7 r0 → ∃ z, F7 n0 order1 i7 r0 = some z ∧ Q z := fun i7 r0 hi => by
  refine finOf_inv (V := V7) (X := X7) (rd := rd7) (fun v => ∃ (i7' : Int) (r0' : List Int), v = ((n0, order1, i7', ()), (r0', ())) ∧ I i7' r0') (fun v => match v with
    | ((n0, order1, i7, _), (r0, _)) => μ i7 r0) Q (fun v hv => ?_) ((n0, order1, i7, ()), (r0, ())) ⟨i7, r0, rfl, hi⟩
  obtain ⟨i7, r0, rfl, hi⟩ := hv
  refine led_mono (h i7 r0 hi) ?_ (fun _ q => q)
  rintro v ⟨i7', r0', rfl, h1, h2⟩
  exact ⟨⟨i7', r0', rfl, h1⟩, h2⟩
noncomputable def L7 : Lp := ⟨7, ⟨[(0, none), (1, none), (5, none), (7, none)]⟩, s7, x7, fun v => match v with
  | ((n0, order1, i7, _), (r0, _)) => F7 n0 order1 i7 r0⟩
theorem ends7 : Ends L7 rd7 := ends_fin (fun v => by
  obtain ⟨⟨n0, order1, i7, _⟩, ⟨r0, _⟩⟩ := v
  rfl)
noncomputable def env : Env := mkEnv tab6 [] 0 [(10, [0, 1, 2, 3, 4, 5, 6, 7, 8, 9, 10, 11, 12, 13, 14, 15])] [L3, L7]
theorem round3 : RoundIs env (sub [true, true, false, true, false, false] code) L3 rd3 := fun R v k kx => by kernel_rfl
theorem round7 : RoundIs env (sub [true, true, true, false, true, false, false] code) L7 rd7 := fun R v k kx => by kernel_rfl
abbrev D : Type := ((List Int) × Unit)
noncomputable def run' (n0 : Int) (order1 : (List Int)) : Option D := (match F3 (n0) (order1) ((0 : Int)) ([]) with
  | some (((n0_1, order1_1, _), (r0_1, _))) => (match F7 (n0_1) (order1_1) ((0 : Int)) (r0_1) with
  | some ((_, (r0_2, _))) => some (r0_2, ())
  | none => none)
  | none => none)
noncomputable def run (d : Ds (List.map PM.ty ps)) : Option (Ds (muts ps ++ List.map PM.ty rs)) := match d with
  | (n0, order1, _) => run' n0 order1
theorem run_is : ∀ d, runF env 54 code [4] ps rs d = run d := fun d => by kernel_rfl
theorem loops : LoopsOk env code := loopsOk_of (l := [[true, true, false, true, false, false], [true, true, true, false, true, false, false]]) (by kernel_rfl) (fun p hp => by
  simp only [List.mem_cons, List.not_mem_nil, or_false] at hp
  rcases hp with rfl | rfl
  · exact loopOk_lp (L := L3) (x := sub [true, true, false, true, false, false] code) (by kernel_rfl) (by simp [L3]) round3 ends3
  · exact loopOk_lp (L := L7) (x := sub [true, true, true, false, true, false, false] code) (by kernel_rfl) (by simp [L7]) round7 ends7
  )
noncomputable def pre (n0 : Int) (order1 : (List Int)) : Bool := (run' n0 order1).isSome
noncomputable def fn (n0 : Int) (order1 : (List Int)) : D := match run' n0 order1 with
  | some x => x
  | none => default
noncomputable def sig : Sig := ⟨ps, rs, fun d => match d with
  | (n0, order1, _) => pre n0 order1, fun d => match d with
  | (n0, order1, _) => fn n0 order1, false⟩
theorem run_fn (n0 : Int) (order1 : (List Int)) (h : pre n0 order1 = true) : run' n0 order1 = some (fn n0 order1) := by
  unfold pre at h
  unfold fn
  cases e : run' n0 order1 with
  | some x => rfl
  | none => rw [e] at h; cases h
theorem is_fn (n0 : Int) (order1 : (List Int)) {x : D} (h : run' n0 order1 = some x) : pre n0 order1 = true ∧ fn n0 order1 = x := by
  unfold pre fn
  rw [h]
  exact ⟨rfl, rfl⟩
theorem sound {ρ : Obs} (hE : EnvOk Go.Proofs.Try.prog ρ env) : Sound Go.Proofs.Try.prog ρ 103 sig := sound_of (fn := Go.Proofs.Try.f103) (c := code) (res := [4]) hE (by kernel_rfl) (by kernel_rfl) (by kernel_rfl) (by kernel_rfl) (by kernel_rfl) loops rfl (show 2 ≤ 54 by decide) (fun d hd => (run_is d).trans (by
  obtain ⟨n0, order1, _⟩ := d
  exact run_fn n0 order1 hd))
theorem enters : Enters Go.Proofs.Try.prog 103 := enters_of (fn := Go.Proofs.Try.f103) (by kernel_rfl) (by kernel_rfl) (by kernel_rfl)
theorem ok {ρ : Obs} (h : ∀ p ∈ ([] : List (FuncId × Sig)), Enters Go.Proofs.Try.prog p.1 ∧ Sound Go.Proofs.Try.prog ρ p.1 p.2) : Enters Go.Proofs.Try.prog 103 ∧ Sound Go.Proofs.Try.prog ρ 103 sig := ⟨enters, sound (envOk_of tab6Ok h)⟩
theorem okR : Enters Go.Proofs.Try.prog 103 ∧ Sound Go.Proofs.Try.prog rho 103 sig := ok (fun p hp => by
  cases hp)
end shufL
end Go.Proofs.Ythbojpaghbbnnaa.Z
namespace Go.Proofs.Ythbojpaghbbnnaa
set_option linter.unusedVariables false
set_option linter.unusedSimpArgs false
theorem Gr.ext' {G H : Gr} (hn : G.n = H.n) (h : ∀ u v, G.adj u v = true ↔ H.adj u v = true) : G = H := by
  obtain ⟨n, a⟩ := G
  obtain ⟨m, b⟩ := H
  simp only at hn h
  subst hn
  have : a = b := by
    funext u v
    exact Bool.eq_iff_iff.2 (h u v)
  rw [this]
def isPair (c : Chg) (a b : Nat) : Prop := (c.1.1 = a ∧ c.1.2 = b) ∨ (c.1.1 = b ∧ c.1.2 = a)
theorem edges_le (G : Gr) : G.edges ≤ G.n * G.n := pairsTo_le G G.n
theorem ofPairs_adj {n : Nat} {ps : List (Int × Int)} {u v : Nat} : (Gr.ofPairs n ps).adj u v = true ↔ u ≠ v ∧ ∃ p ∈ ps, (p.1 = (u : Int) ∧ p.2 = (v : Int)) ∨ (p.1 = (v : Int) ∧ p.2 = (u : Int)) := by
  simp only [Gr.ofPairs, Bool.and_eq_true, decide_eq_true_eq, List.any_eq_true, Bool.or_eq_true]
theorem ofPairs_ok {n : Nat} {ps : List (Int × Int)} (hn : n ≤ 16777216) (h : ∀ p ∈ ps, okP n p = true) : (Gr.ofPairs n ps).Ok where
  symm u v := Bool.eq_iff_iff.2 (by
    rw [ofPairs_adj, ofPairs_adj]
    constructor
    · rintro ⟨h1, p, h2, h3⟩; exact ⟨fun e => h1 e.symm, p, h2, h3.symm⟩
    · rintro ⟨h1, p, h2, h3⟩; exact ⟨fun e => h1 e.symm, p, h2, h3.symm⟩)
  irr u := Bool.eq_false_iff.2 (fun k => (ofPairs_adj.1 k).1 rfl)
  rng u v k := by
    obtain ⟨_, p, h2, h3⟩ := ofPairs_adj.1 k
    have h4 := okP_iff.1 (h p h2)
    have : (Gr.ofPairs n ps).n = n := rfl
    omega
  small := hn
end Go.Proofs.Ythbojpaghbbnnaa
namespace Go.Proofs.Ythbojpaghbbnnaa.Z
open Go Go.RowKit
set_option linter.unusedVariables false
set_option linter.unusedSimpArgs false
abbrev Srt (l : List Int) : Prop := l.Pairwise (· < ·)
theorem srt_ext : ∀ {a b : List Int}, Srt a → Srt b → (∀ x, x ∈ a ↔ x ∈ b) → a = b
  | [], [], _, _, _ => rfl
  | [], y :: b, _, _, h => absurd ((h y).2 (by simp)) (by simp)
  | x :: a, [], _, _, h => absurd ((h x).1 (by simp)) (by simp)
  | x :: a, y :: b, ha, hb, h => by
    obtain ⟨ha1, ha2⟩ := List.pairwise_cons.1 ha
    obtain ⟨hb1, hb2⟩ := List.pairwise_cons.1 hb
    have hxy : x = y := by
      rcases List.mem_cons.1 ((h x).1 (by simp)) with e | h1
      · exact e
      · rcases List.mem_cons.1 ((h y).2 (by simp)) with e | h2
        · exact e.symm
        · have := ha1 y h2
          have := hb1 x h1
          omega
    subst hxy
    rw [srt_ext ha2 hb2 (fun z => ?_)]
    constructor
    · intro hz
      rcases List.mem_cons.1 ((h z).1 (List.mem_cons_of_mem _ hz)) with e | h1
      · have := ha1 z hz; omega
      · exact h1
    · intro hz
      rcases List.mem_cons.1 ((h z).2 (List.mem_cons_of_mem _ hz)) with e | h1
      · have := hb1 z hz; omega
      · exact h1
theorem srt_getD {l : List Int} (h : Srt l) {i j : Nat} (hij : i < j) (hj : j < l.length) : l.getD i 0 < l.getD j 0 := by
  have := List.pairwise_iff_getElem.1 h i j (by omega) hj hij
  simpa [List.getD_eq_getElem?_getD, List.getElem?_eq_getElem, hj, show i < l.length by omega] using this
theorem mid_is {lo hi : Int} (h0 : 0 ≤ lo) (h1 : lo < hi) (h2 : hi ≤ 2199023255552) : IntKind.wrap .i64 (Int.tdiv (IntKind.wrap .i64 (lo + hi)) 2) = (lo + hi) / 2 := by
  rw [wr (n := lo + hi) (by omega) (by omega), Int.tdiv_eq_ediv_of_nonneg (by omega), wr (by omega) (by omega)]
theorem at5.is {l : List Int} {u : Int} (hl : l.length ≤ 1099511627776) (hs : Srt l) : at5.pre l u = true ∧ ∃ k : Nat, at5.fn l u = ((k : Int), ()) ∧ k ≤ l.length ∧ (∀ i, i < k → l.getD i 0 < u) ∧ ∀ i, k ≤ i → i < l.length → u ≤ l.getD i 0 := by
  have key := at5.F3_inv (l0 := l) (u1 := u) (fun lo hi => 0 ≤ lo ∧ lo ≤ hi ∧ hi ≤ l.length ∧ (∀ i, i < lo.toNat → l.getD i 0 < u) ∧ ∀ i, hi.toNat ≤ i → i < l.length → u ≤ l.getD i 0) (fun lo hi => (hi - lo).toNat)
    (fun z => ∃ k : Nat, z = (((k : Int), ()), ()) ∧ k ≤ l.length ∧ (∀ i, i < k → l.getD i 0 < u) ∧ ∀ i, k ≤ i → i < l.length → u ≤ l.getD i 0) (fun lo hi hi' => by
      obtain ⟨h0, h1, h2, h3, h4⟩ := hi'
      unfold at5.R3
      refine led_dif (fun q1 => ?_) (fun q1 => led_x ⟨lo.toNat, by rw [Int.toNat_of_nonneg h0], by omega, h3, fun i h5 h6 => h4 i (by omega) h6⟩)
      simp only [mid_is h0 q1 (by omega)]
      have hw : IntKind.wrap .i64 ((lo + hi) / 2 + 1) = (lo + hi) / 2 + 1 := wr (by omega) (by omega)
      simp only [hw]
      refine led_need (by omega) (led_need (by omega) (led_dif (fun q2 => led_k ⟨_, _, rfl, ⟨by omega, by omega, h2, fun i h5 => ?_, h4⟩, by omega⟩) (fun q2 => led_k ⟨_, _, rfl, ⟨h0, by omega, by omega, h3, fun i h5 h6 => ?_⟩, by omega⟩)))
      · rcases Nat.lt_or_ge i ((lo + hi) / 2).toNat with q | q
        · have := srt_getD hs q (by omega); omega
        · have : i = ((lo + hi) / 2).toNat := by omega
          rw [this]; exact q2
      · rcases Nat.lt_or_ge ((lo + hi) / 2).toNat i with q | q
        · have := srt_getD hs q h6; omega
        · have : i = ((lo + hi) / 2).toNat := by omega
          rw [this]; omega) 0 l.length ⟨by omega, by omega, by omega, fun i h => by omega, fun i h h' => by omega⟩
  obtain ⟨z, hz, k, hq, h1, h2, h3⟩ := key
  have := at5.is_fn l u (x := ((k : Int), ())) (by unfold at5.run'; rw [hz, hq])
  exact ⟨this.1, k, this.2, h1, h2, h3⟩
theorem at_mem {l : List Int} {u : Int} {k : Nat} (hs : Srt l) (hk : k ≤ l.length) (h1 : ∀ i, i < k → l.getD i 0 < u) (h2 : ∀ i, k ≤ i → i < l.length → u ≤ l.getD i 0) : u ∈ l ↔ k < l.length ∧ l.getD k 0 = u := by
  constructor
  · intro h
    obtain ⟨j, hj, e⟩ := (mem_idx 0).1 h
    rcases Nat.lt_trichotomy j k with q | q | q
    · have := h1 j q; omega
    · subst q; exact ⟨hj, e⟩
    · have := srt_getD hs q hj
      have := h2 k (Nat.le_refl _) (by omega)
      omega
  · rintro ⟨h, e⟩
    exact (mem_idx 0).2 ⟨k, h, e⟩
theorem with5.is {l : List Int} {u : Int} (hl : l.length ≤ 1099511627776) (hs : Srt l) : with5.pre l u = true ∧ ∃ m, with5.fn l u = (m, ()) ∧ Srt m ∧ ∀ x, x ∈ m ↔ x = u ∨ x ∈ l := by
  obtain ⟨a1, k, a2, a3, a4, a5⟩ := at5.is (u := u) hl hs
  have hm := at_mem hs a3 a4 a5
  have h0 : (0 : Int) ≤ (k : Int) := by omega
  have hkl : (k : Int) ≤ (l.length : Int) := by omega
  have hw : IntKind.wrap .i64 ((l.length : Int) + 1) = (l.length : Int) + 1 := wr (by omega) (by omega)
  have b1 : (0 : Int) ≤ (l.length : Int) + 1 := by omega
  have b2 : ((l.length : Int) + 1).toNat * 8 ≤ 140737488355328 := by omega
  have b3 : (0 + (List.take k l).length) * 8 ≤ 140737488355328 := by rw [List.length_take]; omega
  have b4 : (([] ++ List.take k l).length + [u].length) * 8 ≤ 140737488355328 := by simp; omega
  have b5 : (([] ++ List.take k l ++ [u]).length + (List.drop k l).length) * 8 ≤ 140737488355328 := by simp; omega
  by_cases h : u ∈ l
  · obtain ⟨c1, c2⟩ := hm.1 h
    have := with5.is_fn l u (x := (l, ())) (by
      unfold with5.run'
      have hd : decide ((k : Int) < (l.length : Int)) = true := decide_eq_true (by omega)
      have hlt : (k : Int) < (l.length : Int) := by omega
      have he : (l.getD k 0 == u) = true := by simpa using c2
      simp only [a1, a2, if_true, Int.toNat_natCast, decide_true, h0, hlt, he])
    exact ⟨this.1, l, this.2, hs, fun x => ⟨.inr, fun q => q.elim (fun e => e ▸ h) id⟩⟩
  · have := with5.is_fn l u (x := ([] ++ List.take k l ++ [u] ++ List.drop k l, ())) (by
      unfold with5.run'
      by_cases q : (k : Int) < (l.length : Int)
      · have hd : decide ((k : Int) < (l.length : Int)) = true := decide_eq_true q
        have he : (l.getD k 0 == u) = false := by
          rw [beq_eq_false_iff_ne]
          exact fun e => h (hm.2 ⟨by omega, e⟩)
        simp only [a1, a2, if_true, Int.toNat_natCast, decide_true, h0, q, he, Bool.false_eq_true, if_false, hw, b1, b2, b3, b4, b5, hkl]
      · have hd : decide ((k : Int) < (l.length : Int)) = false := decide_eq_false q
        simp only [a1, a2, if_true, Int.toNat_natCast, hd, h0, Bool.false_eq_true, if_false, hw, b1, b2, b3, b4, b5, hkl])
    refine ⟨this.1, _, this.2, ?_, fun x => ?_⟩
    · rw [List.nil_append, List.append_assoc, Srt, List.pairwise_append]
      refine ⟨hs.sublist (List.take_sublist _ _), ?_, fun x hx y hy => ?_⟩
      · rw [List.singleton_append, List.pairwise_cons]
        refine ⟨fun y hy => ?_, hs.sublist (List.drop_sublist _ _)⟩
        obtain ⟨j, hj, rfl⟩ := (mem_idx 0).1 hy
        rw [List.length_drop] at hj
        have e : (List.drop k l).getD j 0 = l.getD (k + j) 0 := by simp [List.getD_eq_getElem?_getD, List.getElem?_drop]
        rw [e]
        have g := a5 (k + j) (by omega) (by omega)
        rcases Int.lt_or_le u (l.getD (k + j) 0) with g2 | g2
        · exact g2
        · exact absurd ((mem_idx 0).2 ⟨k + j, by omega, by omega⟩) h
      · obtain ⟨i, hi, rfl⟩ := (mem_idx 0).1 hx
        rw [List.length_take] at hi
        have e : (List.take k l).getD i 0 = l.getD i 0 := by simp [List.getD_eq_getElem?_getD, List.getElem?_take, show i < k by omega]
        rw [e]
        have g := a4 i (by omega)
        rw [List.singleton_append, List.mem_cons] at hy
        rcases hy with rfl | hy
        · exact g
        · obtain ⟨j, hj, rfl⟩ := (mem_idx 0).1 hy
          rw [List.length_drop] at hj
          have e : (List.drop k l).getD j 0 = l.getD (k + j) 0 := by simp [List.getD_eq_getElem?_getD, List.getElem?_drop]
          rw [e]
          have := a5 (k + j) (by omega) (by omega)
          omega
    · rw [List.nil_append, List.append_assoc, List.mem_append, List.singleton_append, List.mem_cons]
      conv => rhs; rw [← List.take_append_drop k l, List.mem_append]
      constructor
      · rintro (a | a | a)
        · exact .inr (.inl a)
        · exact .inl a
        · exact .inr (.inr a)
      · rintro (a | a | a)
        · exact .inr (.inl a)
        · exact .inl a
        · exact .inr (.inr a)
def rowsOf (G : Gr) : List (List Int) := (List.range G.n).map (fun u => up (G.nb u))
theorem rowsOf_len (G : Gr) : (rowsOf G).length = G.n := by simp [rowsOf]
theorem rowsOf_getD {G : Gr} (hG : G.Ok) (u : Nat) : (rowsOf G).getD u [] = up (G.nb u) := by
  rcases Nat.lt_or_ge u G.n with h | h
  · simp [rowsOf, List.getD, h]
  · rw [Gr.nb_out hG h]
    simp [rowsOf, List.getD, List.getElem?_eq_none, h, up]
theorem up_srt (G : Gr) (u : Nat) : Srt (up (G.nb u)) := by
  unfold up Srt
  rw [List.pairwise_map]
  exact (G.nb_sorted u).imp (fun h => by omega)
theorem mem_up' {G : Gr} (hG : G.Ok) {u : Nat} {x : Int} : x ∈ up (G.nb u) ↔ ∃ v : Nat, x = (v : Int) ∧ G.adj u v = true := by
  unfold up
  simp only [List.mem_map]
  constructor
  · rintro ⟨v, hv, rfl⟩; exact ⟨v, rfl, (Gr.mem_nb hG).1 hv⟩
  · rintro ⟨v, rfl, hv⟩; exact ⟨v, (Gr.mem_nb hG).2 hv, rfl⟩
theorem up_len_le (G : Gr) (u : Nat) : (up (G.nb u)).length ≤ G.n := by rw [up_length]; exact G.nb_length_le u
theorem rows_ext {L : List (List Int)} {G : Gr} (hG : G.Ok) (hl : L.length = G.n) (h : ∀ u, u < G.n → Srt (L.getD u []) ∧ ∀ x, x ∈ L.getD u [] ↔ ∃ v : Nat, x = (v : Int) ∧ G.adj u v = true) : L = rowsOf G := by
  refine List.ext_getElem (by rw [hl, rowsOf_len]) (fun i h1 h2 => ?_)
  obtain ⟨a, b⟩ := h i (by omega)
  have e1 : L.getD i [] = L[i] := by simp [List.getD_eq_getElem?_getD, List.getElem?_eq_getElem, h1]
  have e2 : (rowsOf G).getD i [] = (rowsOf G)[i] := by simp [List.getD_eq_getElem?_getD, List.getElem?_eq_getElem, h2]
  rw [← e1, ← e2, rowsOf_getD hG]
  exact srt_ext a (up_srt G i) (fun x => (b x).trans (mem_up' hG).symm)
theorem chg_self (G : Gr) (u : Int) (g : Bool) : G.chg ((u, u), g) = G := Gr.ext' rfl (fun a b => by
  rw [chg_adj]
  constructor
  · rintro (⟨h1, h2 | h2, _⟩ | ⟨_, h⟩)
    · obtain ⟨e1, e2⟩ := h2; exact absurd (show a = b by simp only at e1 e2; omega) h1
    · obtain ⟨e1, e2⟩ := h2; exact absurd (show a = b by simp only at e1 e2; omega) h1
    · exact h
  · intro h
    refine .inr ⟨?_, h⟩
    rintro ⟨h1, h2 | h2⟩
    · obtain ⟨e1, e2⟩ := h2; exact h1 (by simp only at e1 e2; omega)
    · obtain ⟨e1, e2⟩ := h2; exact h1 (by simp only at e1 e2; omega))
theorem joins5.is {G : Gr} (hG : G.Ok) {u v : Int} (h : okP G.n (u, v) = true) : joins5.pre (rowsOf G) u v = true ∧ joins5.fn (rowsOf G) u v = ((rowsOf (G.chg ((u, v), false)), false), ()) := by
  obtain ⟨⟨hu0, hu1⟩, hv0, hv1⟩ := okP_iff.1 h
  simp only at hu0 hu1 hv0 hv1
  refine joins5.is_fn _ _ _ ?_
  unfold joins5.run'
  by_cases huv : u = v
  · subst huv
    simp [chg_self]
  · have hne : (u != v) = true := by simpa using huv
    obtain ⟨a, rfl⟩ := Int.eq_ofNat_of_zero_le hu0
    obtain ⟨b, rfl⟩ := Int.eq_ofNat_of_zero_le hv0
    have hab : a ≠ b := fun e => huv (by rw [e])
    have hsm := hG.small
    obtain ⟨w1, m1, w2, w3, w4⟩ := with5.is (l := up (G.nb a)) (u := (b : Int)) (by have := up_len_le G a; omega) (up_srt G a)
    obtain ⟨x1, m2, x2, x3, x4⟩ := with5.is (l := up (G.nb b)) (u := (a : Int)) (by have := up_len_le G b; omega) (up_srt G b)
    have ga : List.getD (rowsOf G) (Int.toNat (a : Int)) [] = up (G.nb a) := rowsOf_getD hG a
    have gb : List.getD (List.set (rowsOf G) (Int.toNat (a : Int)) m1) (Int.toNat (b : Int)) [] = up (G.nb b) := by
      rw [getD_setP, if_neg (fun e => hab (by have := e.1; simpa using this))]
      exact rowsOf_getD hG b
    have l1 : (a : Int) < ((rowsOf G).length : Int) := by rw [rowsOf_len]; omega
    have l2 : (b : Int) < ((List.set (rowsOf G) (Int.toNat (a : Int)) m1).length : Int) := by rw [List.length_set, rowsOf_len]; omega
    have l3 : Int.toNat (a : Int) < (rowsOf G).length := by rw [rowsOf_len]; omega
    have l4 : Int.toNat (b : Int) < (List.set (rowsOf G) (Int.toNat (a : Int)) m1).length := by rw [List.length_set, rowsOf_len]; omega
    simp only [hne, ga, w1, w2, gb, x1, x2, hu0, hv0, l1, l2, l3, l4, if_true]
    congr 3
    refine rows_ext (chg_ok hG h) (by rw [List.length_set, List.length_set, rowsOf_len]; rfl) (fun c hc => ?_)
    rw [getD_setP]
    by_cases hcb : b = c
    · subst hcb
      rw [if_pos ⟨by simp, l4⟩]
      refine ⟨x3, fun x => (x4 x).trans ?_⟩
      rw [mem_up' hG]
      constructor
      · rintro (rfl | ⟨v, rfl, hv⟩)
        · exact ⟨a, rfl, (chg_adj _ _ _ _).2 (.inl ⟨Ne.symm hab, .inr ⟨rfl, rfl⟩, rfl⟩)⟩
        · by_cases hva : v = a
          · subst hva; exact ⟨v, rfl, (chg_adj _ _ _ _).2 (.inl ⟨Ne.symm hab, .inr ⟨rfl, rfl⟩, rfl⟩)⟩
          · refine ⟨v, rfl, (chg_adj _ _ _ _).2 (.inr ⟨?_, hv⟩)⟩
            rintro ⟨_, ⟨e1, e2⟩ | ⟨e1, e2⟩⟩
            · simp only at e1; omega
            · simp only at e1; omega
      · rintro ⟨v, rfl, hv⟩
        rcases (chg_adj _ _ _ _).1 hv with ⟨_, ⟨e1, e2⟩ | ⟨e1, e2⟩, _⟩ | ⟨_, hv⟩
        · simp only at e1; omega
        · exact .inl (by simp only at e1; omega)
        · exact .inr ⟨v, rfl, hv⟩
    · rw [if_neg (fun e => hcb (by have := e.1; simpa using this)), getD_setP]
      by_cases hca : a = c
      · subst hca
        rw [if_pos ⟨by simp, l3⟩]
        refine ⟨w3, fun x => (w4 x).trans ?_⟩
        rw [mem_up' hG]
        constructor
        · rintro (rfl | ⟨v, rfl, hv⟩)
          · exact ⟨b, rfl, (chg_adj _ _ _ _).2 (.inl ⟨hab, .inl ⟨rfl, rfl⟩, rfl⟩)⟩
          · by_cases hvb : v = b
            · subst hvb; exact ⟨v, rfl, (chg_adj _ _ _ _).2 (.inl ⟨hab, .inl ⟨rfl, rfl⟩, rfl⟩)⟩
            · refine ⟨v, rfl, (chg_adj _ _ _ _).2 (.inr ⟨?_, hv⟩)⟩
              rintro ⟨_, ⟨e1, e2⟩ | ⟨e1, e2⟩⟩
              · simp only at e2; omega
              · simp only at e2; omega
        · rintro ⟨v, rfl, hv⟩
          rcases (chg_adj _ _ _ _).1 hv with ⟨_, ⟨e1, e2⟩ | ⟨e1, e2⟩, _⟩ | ⟨_, hv⟩
          · exact .inl (by simp only at e2; omega)
          · simp only at e2; omega
          · exact .inr ⟨v, rfl, hv⟩
      · rw [if_neg (fun e => hca (by have := e.1; simpa using this)), rowsOf_getD hG]
        refine ⟨up_srt G c, fun x => (mem_up' hG).trans ?_⟩
        refine exists_congr (fun v => and_congr Iff.rfl ⟨fun hv => (chg_adj _ _ _ _).2 (.inr ⟨?_, hv⟩), fun hv => ?_⟩)
        · rintro ⟨_, ⟨e1, e2⟩ | ⟨e1, e2⟩⟩
          · simp only at e1; omega
          · simp only at e2; omega
        · rcases (chg_adj _ _ _ _).1 hv with ⟨_, ⟨e1, e2⟩ | ⟨e1, e2⟩, _⟩ | ⟨_, hv⟩
          · simp only at e1; omega
          · simp only at e2; omega
          · exact hv
theorem in5.is (v n : Int) : in5.pre v n = true ∧ in5.fn v n = (decide (0 ≤ v) && decide (v < n), ()) := by
  refine in5.is_fn _ _ ?_
  unfold in5.run'
  by_cases h : v ≥ 0
  · have : (0 : Int) ≤ v := h
    simp [h, this]
  · have : ¬ (0 : Int) ≤ v := h
    simp [h, this]
theorem okP_in {n : Nat} {p : Int × Int} : okP n p = ((decide (0 ≤ p.1) && decide (p.1 < (n : Int))) && (decide (0 ≤ p.2) && decide (p.2 < (n : Int)))) := by
  unfold okP; simp only [Bool.and_assoc]
theorem ofPairs_chg (n : Nat) (l : List (Int × Int)) (p : Int × Int) : (Gr.ofPairs n l).chg (p, false) = Gr.ofPairs n (l ++ [p]) := Gr.ext' rfl (fun u v => by
  rw [chg_adj, ofPairs_adj, ofPairs_adj]
  constructor
  · rintro (⟨h1, h2, _⟩ | ⟨_, h1, q, hq, h2⟩)
    · exact ⟨h1, p, by simp, h2⟩
    · exact ⟨h1, q, by simp [hq], h2⟩
  · rintro ⟨h1, q, hq, h2⟩
    by_cases hp : (p.1 = (u : Int) ∧ p.2 = (v : Int)) ∨ (p.1 = (v : Int) ∧ p.2 = (u : Int))
    · exact .inl ⟨h1, hp, rfl⟩
    · refine .inr ⟨fun k => hp k.2, h1, q, ?_, h2⟩
      rcases List.mem_append.1 hq with k | k
      · exact k
      · rw [List.mem_singleton.1 k] at h2
        exact absurd h2 hp)
theorem Make5.F4_is {n : Int} (h0 : 0 ≤ n) {l : List (Int × Int)} (hl : l.length ≤ 1099511627776) : Make5.F4 n l 0 = some (if prsOk n l = true then Sum.inr ((n, l, ()), ()) else Sum.inl ((42, ()), ())) := by
  obtain ⟨m, rfl⟩ := Int.eq_ofNat_of_zero_le h0
  have key := Make5.F4_inv (n0 := (m : Int)) (pairs1 := l) (fun i => 0 ≤ i ∧ i ≤ l.length ∧ ∀ p ∈ l.take i.toNat, okP m p = true) (fun i => l.length - i.toNat)
    (fun z => z = if prsOk (m : Int) l = true then Sum.inr (((m : Int), l, ()), ()) else Sum.inl ((42, ()), ())) (fun i hi => by
      obtain ⟨g0, g1, g2⟩ := hi
      obtain ⟨k, rfl⟩ := Int.eq_ofNat_of_zero_le g0
      unfold Make5.R4
      simp only [Int.toNat_natCast] at g2 ⊢
      refine led_dif (fun q1 => ?_) (fun q1 => led_x ?_)
      · have hk : k < l.length := by omega
        have hw : IntKind.wrap .i64 ((k : Int) + 1) = (k : Int) + 1 := wr (by omega) (by omega)
        have e := take_snoc (0, 0) l k hk
        have hi1 : ((k : Int) + 1).toNat = k + 1 := by omega
        have hmem := mem_getD (0, 0) l k hk
        obtain ⟨p, hp⟩ : ∃ p, l.getD k (0, 0) = p := ⟨_, rfl⟩
        rw [hp] at e hmem
        simp only [hp, (in5.is _ _).1, (in5.is _ _).2, hw, g0, q1, if_true]
        have bad : okP m p = false → (Sum.inl ((42, ()), ()) : Make5.X4) = if prsOk (m : Int) l = true then Sum.inr (((m : Int), l, ()), ()) else Sum.inl ((42, ()), ()) := fun hb => by
          rw [if_neg]
          intro hall
          have := List.all_eq_true.1 hall p hmem
          simp only [Int.toNat_natCast] at this
          rw [this] at hb; cases hb
        have eo := okP_in (n := m) (p := p)
        cases c1 : (decide (0 ≤ p.1) && decide (p.1 < (m : Int))) with
        | false =>
          rw [c1, Bool.false_and] at eo
          simp only [Bool.not_false, Bool.true_eq_false, if_false]
          exact led_x (bad eo)
        | true =>
          rw [c1, Bool.true_and] at eo
          simp only [Bool.not_true, if_true]
          cases c2 : (decide (0 ≤ p.2) && decide (p.2 < (m : Int))) with
          | false =>
            rw [c2] at eo
            simp only [Bool.not_false, if_true]
            exact led_x (bad eo)
          | true =>
            rw [c2] at eo
            simp only [Bool.not_true, Bool.false_eq_true, if_false]
            refine led_k ⟨_, rfl, ⟨by omega, by omega, fun q hq => ?_⟩, by omega⟩
            rw [hi1, e] at hq
            rcases List.mem_append.1 hq with hq | hq
            · exact g2 q hq
            · rw [List.mem_singleton.1 hq]; exact eo
      · rw [if_pos]
        rw [take_all (by omega)] at g2
        exact List.all_eq_true.2 (fun p hp => g2 p hp)) 0 ⟨by omega, by omega, by simp⟩
  obtain ⟨z, hz, hq⟩ := key
  rw [hz, hq]
theorem Make5.F12_is {n : Nat} (hn : n ≤ 16777216) {l : List (Int × Int)} (hl : l.length ≤ 1099511627776) (h : ∀ p ∈ l, okP n p = true) : Make5.F12 l 0 (List.replicate n []) = some ((), ((), rowsOf (Gr.ofPairs n l), ())) := by
  have key := Make5.F12_inv (pairs1 := l) (fun i r => 0 ≤ i ∧ i ≤ l.length ∧ r = rowsOf (Gr.ofPairs n (l.take i.toNat))) (fun i _ => l.length - i.toNat)
    (fun z => z = ((), ((), rowsOf (Gr.ofPairs n l), ()))) (fun i r hi => by
      obtain ⟨g0, g1, rfl⟩ := hi
      obtain ⟨k, rfl⟩ := Int.eq_ofNat_of_zero_le g0
      unfold Make5.R12
      simp only [Int.toNat_natCast]
      refine led_dif (fun q1 => ?_) (fun q1 => led_x (by rw [take_all (by omega)]))
      have hk : k < l.length := by omega
      have hw : IntKind.wrap .i64 ((k : Int) + 1) = (k : Int) + 1 := wr (by omega) (by omega)
      have e := take_snoc (0, 0) l k hk
      have hi1 : ((k : Int) + 1).toNat = k + 1 := by omega
      have hmem := h _ (mem_getD (0, 0) l k hk)
      obtain ⟨j1, j2⟩ := joins5.is (G := Gr.ofPairs n (l.take k)) (ofPairs_ok hn (fun p hp => h p (List.mem_of_mem_take hp))) (u := (l.getD k (0, 0)).1) (v := (l.getD k (0, 0)).2) hmem
      simp only [j1, j2, hw, g0, q1, if_true]
      exact led_k ⟨_, _, rfl, ⟨by omega, by omega, by rw [hi1, e, ← ofPairs_chg]⟩, by omega⟩) 0 (List.replicate n []) ⟨by omega, by omega, by
        refine rows_ext (ofPairs_ok hn (by simp)) (by simp [Gr.ofPairs]) (fun u hu => ?_)
        have : (List.replicate n ([] : List Int)).getD u [] = [] := by simp [List.getD_eq_getElem?_getD, List.getElem?_replicate]; split <;> rfl
        rw [this]
        refine ⟨List.Pairwise.nil, fun x => ⟨fun q => (by cases q), ?_⟩⟩
        rintro ⟨v, _, hv⟩
        simp [Gr.ofPairs] at hv⟩
  obtain ⟨z, hz, hq⟩ := key
  rw [hz, hq]
theorem Make5.is {n : Int} {l : List (Int × Int)} (hl : l.length ≤ 1099511627776) : Make5.pre n l = true ∧ Make5.fn n l = if inN n = true then (if prsOk n l = true then (some (rowsOf (Gr.ofPairs n.toNat l)), 0, ()) else (none, 42, ())) else (none, 41, ()) := by
  refine Make5.is_fn _ _ ?_
  unfold Make5.run'
  by_cases h0 : n < 0
  · have : inN n = false := by simp [inN]; omega
    simp [h0, this]
  · have d0 : decide (n < 0) = false := decide_eq_false h0
    by_cases h1 : n > 16777216
    · have : inN n = false := by simp [inN]; omega
      simp [h0, h1, this]
    · have d1 : decide (n > 16777216) = false := decide_eq_false h1
      have hi : inN n = true := by simp [inN]; omega
      have p0 : (0 : Int) ≤ n := by omega
      have p1 : n.toNat * 24 ≤ 140737488355328 := by omega
      simp only [d0, d1, hi, Make5.F4_is p0 hl, if_true, Bool.false_eq_true, if_false]
      by_cases hp : prsOk n l = true
      · have f := Make5.F12_is (n := n.toNat) (by omega) hl (fun p h => List.all_eq_true.1 hp p h)
        simp only [hp, if_true, p0, p1, f]
      · simp only [hp, if_false, Bool.false_eq_true]
theorem N5.is (G : Gr) : N5.pre (some (rowsOf G)) = true ∧ N5.fn (some (rowsOf G)) = ((G.n : Int), ()) := by
  refine N5.is_fn _ ?_
  unfold N5.run'
  simp [rowsOf_len]
theorem Nb5.is {G : Gr} (hG : G.Ok) (v : Int) : Nb5.pre (some (rowsOf G)) v = true ∧ Nb5.fn (some (rowsOf G)) v = (up (G.nbz v), ()) := by
  refine Nb5.is_fn _ _ ?_
  unfold Nb5.run'
  have hsm := hG.small
  simp only [Option.isSome_some, Option.getD_some, (in5.is _ _).1, (in5.is _ _).2, rowsOf_len, if_true]
  by_cases h : 0 ≤ v ∧ v < (G.n : Int)
  · obtain ⟨k, rfl⟩ := Int.eq_ofNat_of_zero_le h.1
    have g : (rowsOf G).getD (Int.toNat (k : Int)) [] = up (G.nb k) := rowsOf_getD hG k
    have hp : IntsO.pre (up (G.nb k)) = true := decide_eq_true (by have := up_len_le G k; omega)
    have e2 : G.nbz (k : Int) = G.nb k := by simp [Gr.nbz]
    simp only [h.1, h.2, decide_true, Bool.and_self, Bool.not_true, Bool.false_eq_true, if_false, if_true, g, hp, IntsO.fn, e2]
  · have : G.nbz v = [] := by
      unfold Gr.nbz
      split
      · rename_i h0; exact Gr.nb_out hG (by omega)
      · rfl
    have e : (decide (0 ≤ v) && decide (v < (G.n : Int))) = false := by
      rw [Bool.and_eq_false_iff, decide_eq_false_iff_not, decide_eq_false_iff_not]; omega
    simp [e, this, up]
theorem changed_ok {G : Gr} (hG : G.Ok) {cs : List Chg} (h : ∀ c ∈ cs, okP G.n c.1 = true) : (G.changed cs).Ok := by
  induction cs generalizing G with
  | nil => exact hG
  | cons c cs ih =>
    have : G.changed (c :: cs) = (G.chg c).changed cs := rfl
    rw [this]
    exact ih (chg_ok hG (h c (by simp))) (fun d hd => h d (by simp [hd]))
end Go.Proofs.Ythbojpaghbbnnaa.Z
namespace Go.Proofs.Ythbojpaghbbnnaa.Z
open Go Go.RowKit
set_option linter.unusedVariables false
set_option linter.unusedSimpArgs false
abbrev bset (l : List Bool) : Nat → Bool := fun x => l.getD x false
theorem all6.is {n : Nat} (hn : n ≤ 16777216) : all6.pre (n : Int) = true ∧ all6.fn (n : Int) = (List.replicate n true, ()) := by
  have key := all6.F3_inv (n0 := (n : Int)) (fun i r => ∃ k : Nat, i = (k : Int) ∧ k ≤ n ∧ r = List.replicate k true) (fun i _ => n - i.toNat) (fun z => z = ((), (List.replicate n true, ()))) (fun i r hI => by
    obtain ⟨k, rfl, hk, rfl⟩ := hI
    unfold all6.R3
    refine led_dif (fun q1 => ?_) (fun q1 => led_x ?_)
    · have hw : IntKind.wrap .i64 ((k : Int) + 1) = (k : Int) + 1 := wr (by omega) (by omega)
      have room : ((List.replicate k true).length + [true].length) * 1 ≤ 140737488355328 := by simp; omega
      simp only [hw, room, if_true]
      exact led_k ⟨_, _, rfl, ⟨k + 1, by omega, by omega, by rw [List.replicate_succ']⟩, by omega⟩
    · obtain rfl : k = n := by omega
      rfl) 0 [] ⟨0, rfl, by omega, rfl⟩
  obtain ⟨z, hz, rfl⟩ := key
  refine all6.is_fn _ ?_
  unfold all6.run'
  rw [hz]
theorem inSet_snoc (S : Nat → Bool) (l : List Int) (x : Int) : Hx.inSet S (l ++ [x]) = Hx.inSet S l + if S x.toNat = true then 1 else 0 := by
  unfold Hx.inSet
  rw [List.countP_append, List.countP_cons, List.countP_nil]
  by_cases h : S x.toNat = true
  · simp [h]
  · simp [h]
theorem nbz_at (G : Gr) (v : Nat) : G.nbz (v : Int) = G.nb v := by
  unfold Gr.nbz
  rw [if_pos (by omega), Int.toNat_natCast]
theorem there6.is {G : Gr} (hG : G.Ok) (hn : G.n ≤ 16777216) {l : List Bool} (hl : l.length = G.n) {v : Nat} : there6.pre (some (rowsOf G)) l (v : Int) = true ∧ there6.fn (some (rowsOf G)) l (v : Int) = (Hx.inSet (bset l) (nbsOf G v), ()) := by
  have key := there6.F4_inv (in1 := l) (l8 := up (G.nb v)) (fun n i => ∃ j : Nat, i = (j : Int) ∧ j ≤ (G.nb v).length ∧ n = Hx.inSet (bset l) ((up (G.nb v)).take j)) (fun _ i => (G.nb v).length - i.toNat)
    (fun z => z = ((Hx.inSet (bset l) (nbsOf G v), ()), ())) (fun n i hI => by
      obtain ⟨j, rfl, hj, rfl⟩ := hI
      unfold there6.R4
      have hlen : (up (G.nb v)).length = (G.nb v).length := up_length _
      have hb := G.nb_length_le v
      refine led_dif (fun q1 => ?_) (fun q1 => led_x ?_)
      · have hjl : j < (up (G.nb v)).length := by omega
        have hm := mem_getD 0 (up (G.nb v)) j hjl
        obtain ⟨x, hx, hxe⟩ := List.mem_map.1 hm
        have hxn : x < G.n := hG.rng' ((Gr.mem_nb hG).1 hx)
        have hw : IntKind.wrap .i64 ((j : Int) + 1) = (j : Int) + 1 := wr (by omega) (by omega)
        have h0 := Hx.inSet_nonneg (bset l) ((up (G.nb v)).take j)
        have h1 := Hx.inSet_le (bset l) ((up (G.nb v)).take j)
        rw [List.length_take] at h1
        have hw2 : IntKind.wrap .i64 (Hx.inSet (bset l) ((up (G.nb v)).take j) + 1) = Hx.inSet (bset l) ((up (G.nb v)).take j) + 1 := wr (by omega) (by omega)
        have a1 : (0 : Int) ≤ (j : Int) := by omega
        have a2 : (0 : Int) ≤ (x : Int) := by omega
        have a3 : (x : Int) < (l.length : Int) := by omega
        have tk := take_snoc 0 (up (G.nb v)) j hjl
        rw [← hxe] at tk
        simp only [Int.toNat_natCast, ← hxe, hw, hw2, a1, a2, a3, q1, if_true]
        have tn : ((j : Int) + 1).toNat = j + 1 := by omega
        by_cases hb2 : l.getD x false = true
        · simp only [hb2, if_true]
          exact led_k ⟨_, _, rfl, ⟨j + 1, by omega, by omega, by rw [tk, inSet_snoc, if_pos (show bset l (x : Int).toNat = true by rw [Int.toNat_natCast]; exact hb2)]⟩, by omega⟩
        · simp only [hb2, if_false]
          exact led_k ⟨_, _, rfl, ⟨j + 1, by omega, by omega, by rw [tk, inSet_snoc, if_neg (show ¬ bset l (x : Int).toNat = true by rw [Int.toNat_natCast]; exact hb2)]; omega⟩, by omega⟩
      · rw [List.take_of_length_le (by omega)]) 0 0 ⟨0, rfl, by omega, rfl⟩
  obtain ⟨z, hz, rfl⟩ := key
  refine there6.is_fn _ _ _ ?_
  unfold there6.run'
  simp only [(Nb5.is hG _).1, (Nb5.is hG _).2, nbz_at, hz, if_true]
theorem count_setF : ∀ (l : List Bool) (v : Nat), l.getD v false = true → (l.set v false).count true + 1 = l.count true
  | [], v, h => by simp at h
  | x :: l, 0, h => by
    have : x = true := by simpa using h
    subst this
    simp
  | x :: l, v + 1, h => by
    have ih := count_setF l v (by simpa using h)
    cases x <;> simp only [List.set_cons_succ, List.count_cons] <;> omega
/-- What one pass leaves. -/
structure Pass (G : Gr) (k : Int) (r0 r : List Bool) : Prop where
  len : r.length = G.n
  sub : ∀ x, bset r x = true → bset r0 x = true
  top : ∀ S, Hx.Dense G.n (nbsOf G) S k → (∀ x, S x = true → bset r0 x = true) → ∀ x, S x = true → bset r x = true
theorem Pass.refl {G : Gr} {k : Int} {r : List Bool} (h : r.length = G.n) : Pass G k r r := ⟨h, fun _ h => h, fun _ _ h => h⟩
theorem Pass.trans {G : Gr} {k : Int} {a b c : List Bool} (h : Pass G k a b) (k' : Pass G k b c) : Pass G k a c := ⟨k'.len, fun x hx => h.sub x (k'.sub x hx), fun S hS hs => k'.top S hS (h.top S hS hs)⟩
theorem bset_setF (r : List Bool) (v x : Nat) : bset (r.set v false) x = if v = x ∧ v < r.length then false else bset r x := Hx.getD_setG r v x false
theorem Pass.drop {G : Gr} {k : Int} {r0 r : List Bool} {v : Nat} (h : Pass G k r0 r) (hv : Hx.inSet (bset r) (nbsOf G v) < k) : Pass G k r0 (r.set v false) := by
  refine ⟨by simp [h.len], fun x hx => ?_, fun S hS hs x hx => ?_⟩
  · rw [bset_setF] at hx
    split at hx
    · cases hx
    · exact h.sub x hx
  · rw [bset_setF]
    have h1 := h.top S hS hs
    split
    · rename_i e
      rw [← e.1] at hx
      have := (hS v hx).2
      have := Hx.inSet_mono (S := S) (S' := bset r) (l := nbsOf G v) (fun u _ q => h1 _ q)
      omega
    · exact h1 x hx
namespace shrunk6
theorem F4_is {G : Gr} (hG : G.Ok) (hn : G.n ≤ 16777216) {k : Int} {r0 : List Bool} (h0 : r0.length = G.n) :
    ∃ (went : Bool) (r : List Bool), F4 (some (rowsOf G)) k false 0 0 r0 = some ((some (rowsOf G), k, went, (r.count true : Int), ()), (r, ())) ∧ Pass G k r0 r ∧ (went = false → r = r0 ∧ Hx.Dense G.n (nbsOf G) (bset r) k) ∧ (went = true → r.count true < r0.count true) := by
  have key := F4_inv (g0 := some (rowsOf G)) (k2 := k)
    (fun went left v r => ∃ j : Nat, v = (j : Int) ∧ j ≤ G.n ∧ left = ((r.take j).count true : Int) ∧ Pass G k r0 r ∧ (went = false → r = r0 ∧ ∀ x, x < j → bset r x = true → k ≤ Hx.inSet (bset r) (nbsOf G x)) ∧ (went = true → r.count true < r0.count true))
    (fun _ _ v _ => G.n - v.toNat)
    (fun z => ∃ (went : Bool) (r : List Bool), z = ((some (rowsOf G), k, went, (r.count true : Int), ()), (r, ())) ∧ Pass G k r0 r ∧ (went = false → r = r0 ∧ Hx.Dense G.n (nbsOf G) (bset r) k) ∧ (went = true → r.count true < r0.count true))
    (fun went left v r hI => by
      obtain ⟨j, rfl, hj, rfl, hP, hw0, hw1⟩ := hI
      have hl := hP.len
      unfold R4
      refine led_dif (fun q1 => ?_) (fun q1 => led_x ?_)
      · have hjl : j < r.length := by omega
        have hwr : IntKind.wrap .i64 ((j : Int) + 1) = (j : Int) + 1 := wr (by omega) (by omega)
        have hc := List.count_le_length (a := true) (l := r.take j)
        rw [List.length_take] at hc
        have hwr2 : IntKind.wrap .i64 (((r.take j).count true : Int) + 1) = ((r.take j).count true : Int) + 1 := wr (by omega) (by omega)
        have a1 : (0 : Int) ≤ (j : Int) := by omega
        have a2 : (j : Int) < ((r.set j false).length : Int) := by rw [List.length_set]; omega
        have tk := take_snoc false r j hjl
        have tn : ((j : Int) + 1).toNat = j + 1 := by omega
        have th := there6.is hG hn (l := r) hl (v := j)
        simp only [Int.toNat_natCast, hwr, hwr2, a1, a2, q1, hjl, th.1, th.2, if_true]
        cases hb : r.getD j false with
        | true =>
          simp only [if_true]
          by_cases hk : Hx.inSet (bset r) (nbsOf G j) < k
          · have g1 : (r.set j false).getD j false = false := by rw [Hx.getD_setG, if_pos ⟨rfl, hjl⟩]
            have g2 := count_setF r j hb
            have g3 : (r.set j false).take (j + 1) = r.take j ++ [false] := by
              rw [take_snoc false _ j (by rw [List.length_set]; exact hjl), g1]
              congr 1
              exact List.take_set_of_le (by omega)
            simp only [hk, decide_true, g1, Bool.false_eq_true, if_true, if_false]
            refine led_k ⟨_, _, _, _, rfl, ⟨j + 1, by omega, by omega, by rw [g3]; simp, hP.drop hk, fun e => (by cases e), fun _ => ?_⟩, by omega⟩
            cases went with
            | true => have := hw1 rfl; omega
            | false => have := (hw0 rfl).1; subst this; omega
          · simp only [hk, decide_false, Bool.false_eq_true, if_false]
            refine led_k ⟨_, _, _, _, rfl, ⟨j + 1, by omega, by omega, by rw [tk, hb]; simp, hP, fun e => ⟨(hw0 e).1, fun x hx hbx => ?_⟩, hw1⟩, by omega⟩
            by_cases e2 : x = j
            · subst e2; omega
            · exact (hw0 e).2 x (by omega) hbx
        | false =>
          simp only [Bool.false_eq_true, if_false]
          refine led_k ⟨_, _, _, _, rfl, ⟨j + 1, by omega, by omega, by rw [tk, hb]; simp, hP, fun e => ⟨(hw0 e).1, fun x hx hbx => ?_⟩, hw1⟩, by omega⟩
          by_cases e2 : x = j
          · subst e2
            have : bset r x = false := hb
            rw [this] at hbx
            cases hbx
          · exact (hw0 e).2 x (by omega) hbx
      · refine ⟨went, r, by rw [List.take_of_length_le (by omega)], hP, fun e => ⟨(hw0 e).1, fun u hu => ?_⟩, hw1⟩
        have hun : u < G.n := by
          rcases Nat.lt_or_ge u G.n with q | q
          · exact q
          · have : bset r u = false := by show r.getD u false = false; rw [List.getD_eq_getElem?_getD, List.getElem?_eq_none (by omega)]; rfl
            rw [this] at hu; cases hu
        exact ⟨hun, (hw0 e).2 u (by omega) hu⟩) false 0 0 r0 ⟨0, rfl, by omega, by simp, Pass.refl h0, fun _ => ⟨rfl, fun x hx => absurd hx (Nat.not_lt_zero x)⟩, fun e => by cases e⟩
  obtain ⟨z, hz, went, r, rfl, h⟩ := key
  exact ⟨went, r, hz, h⟩
theorem is {G : Gr} (hG : G.Ok) (hn : G.n ≤ 16777216) {k : Int} {r0 : List Bool} (h0 : r0.length = G.n) :
    ∃ r, (pre (some (rowsOf G)) r0 k = true ∧ fn (some (rowsOf G)) r0 k = (r, (r.count true : Int), ())) ∧ Pass G k r0 r ∧ Hx.Dense G.n (nbsOf G) (bset r) k := by
  have key := F1_inv (g0 := some (rowsOf G)) (k2 := k) (fun r => Pass G k r0 r) (fun r => r.count true)
    (fun z => ∃ r : List Bool, z = (((r.count true : Int), ()), (r, ())) ∧ Pass G k r0 r ∧ Hx.Dense G.n (nbsOf G) (bset r) k) (fun r hI => by
      obtain ⟨went, r', h1, h2, h3, h4⟩ := F4_is hG hn (k := k) hI.len
      unfold R1
      simp only [h1]
      cases went with
      | false =>
        simp only [Bool.not_false, if_true]
        exact led_x ⟨r', rfl, hI.trans h2, (h3 rfl).2⟩
      | true =>
        simp only [Bool.not_true, Bool.false_eq_true, if_false]
        exact led_k ⟨_, rfl, hI.trans h2, h4 rfl⟩) r0 (Pass.refl h0)
  obtain ⟨z, hz, r, rfl, h1, h2⟩ := key
  refine ⟨r, is_fn _ _ _ ?_, h1, h2⟩
  unfold run'
  rw [hz]
end shrunk6
namespace Cores6
theorem F7_is {G : Gr} (hn : G.n ≤ 16777216) (g : Option (List (List Int))) {k : Int} {r : List Bool} (hr : r.length = G.n) {c : List Int} (hc : c.length = G.n) :
    ∃ c', F7 g k 0 r c = some ((g, k, ()), (r, c', ())) ∧ c'.length = G.n ∧ ∀ x, x < G.n → c'.getD x 0 = if bset r x = true then k else c.getD x 0 := by
  have key := F7_inv (g0 := g) (k5 := k) (r0 := r) (fun v c' => ∃ j : Nat, v = (j : Int) ∧ j ≤ G.n ∧ c'.length = G.n ∧ ∀ x, x < G.n → c'.getD x 0 = if x < j ∧ bset r x = true then k else c.getD x 0) (fun v _ => G.n - v.toNat)
    (fun z => ∃ c', z = ((g, k, ()), (r, c', ())) ∧ c'.length = G.n ∧ ∀ x, x < G.n → c'.getD x 0 = if bset r x = true then k else c.getD x 0) (fun v c' hI => by
      obtain ⟨j, rfl, hj, hl, hx⟩ := hI
      unfold R7
      refine led_dif (fun q1 => ?_) (fun q1 => led_x ⟨c', rfl, hl, fun x hxn => ?_⟩)
      · have hjl : j < c'.length := by omega
        have hw : IntKind.wrap .i64 ((j : Int) + 1) = (j : Int) + 1 := wr (by omega) (by omega)
        have a1 : (0 : Int) ≤ (j : Int) := by omega
        have a2 : (j : Int) < (c'.length : Int) := by omega
        simp only [Int.toNat_natCast, hw, a1, a2, q1, hjl, if_true]
        cases hb : r.getD j false with
        | true =>
          simp only [if_true]
          refine led_k ⟨_, _, rfl, ⟨j + 1, by omega, by omega, by simpa using hl, fun x hxn => ?_⟩, by omega⟩
          rw [Hx.getD_set]
          by_cases e : j = x
          · subst e
            rw [if_pos ⟨rfl, hjl⟩, if_pos ⟨by omega, hb⟩]
          · rw [if_neg (fun q => e q.1), hx x hxn]
            by_cases h2 : x < j
            · simp only [h2, show x < j + 1 by omega]
            · simp only [h2, show ¬ x < j + 1 by omega]
        | false =>
          simp only [Bool.false_eq_true, if_false]
          refine led_k ⟨_, _, rfl, ⟨j + 1, by omega, by omega, hl, fun x hxn => ?_⟩, by omega⟩
          rw [hx x hxn]
          by_cases e : j = x
          · subst e
            have hb' : ¬ bset r j = true := by show ¬ r.getD j false = true; rw [hb]; simp
            rw [if_neg (fun q => hb' q.2), if_neg (fun q => hb' q.2)]
          · by_cases h2 : x < j
            · simp only [h2, show x < j + 1 by omega]
            · simp only [h2, show ¬ x < j + 1 by omega]
      · rw [hx x hxn]
        simp only [show x < j by omega, true_and]) 0 c ⟨0, rfl, by omega, hc, fun x hxn => by simp⟩
  obtain ⟨z, hz, c', rfl, h⟩ := key
  exact ⟨c', hz, h⟩
theorem count_none {r : List Bool} (h : ¬ ((r.count true : Int) > 0)) (x : Nat) : bset r x = false := by
  have h0 : r.count true = 0 := by omega
  rw [List.count_eq_zero] at h0
  cases hb : bset r x with
  | false => rfl
  | true =>
    exfalso
    have hb' : r.getD x false = true := hb
    rw [List.getD_eq_getElem?_getD] at hb'
    cases hx : r[x]? with
    | none => rw [hx] at hb'; cases hb'
    | some y =>
      rw [hx] at hb'
      have : y = true := hb'
      subst this
      exact h0 (List.mem_of_getElem? hx)
theorem count_some {r : List Bool} (h : (r.count true : Int) > 0) : ∃ x, bset r x = true := by
  have h0 : 0 < r.count true := by omega
  obtain ⟨x, hx⟩ := List.getElem?_of_mem (List.count_pos_iff.1 h0)
  exact ⟨x, by show r.getD x false = true; rw [List.getD_eq_getElem?_getD, hx]; rfl⟩
theorem cores {G : Gr} (hG : G.Ok) (hn : G.n ≤ 16777216) : ∃ c, F4 (some (rowsOf G)) 1 (List.replicate G.n true) (List.replicate G.n 0) = some ((), (c, ())) ∧ Hx.IsCores G.n (nbsOf G) c := by
  have key := F4_inv (g0 := some (rowsOf G))
    (fun k r c => ∃ kk : Nat, k = (kk : Int) + 1 ∧ kk ≤ G.n ∧ r.length = G.n ∧ c.length = G.n ∧ (∀ v, bset r v = true ↔ Hx.InCore G.n (nbsOf G) kk v) ∧ ∀ v, v < G.n → 0 ≤ c.getD v 0 ∧ Hx.InCore G.n (nbsOf G) (c.getD v 0) v ∧ (bset r v = false → ¬ Hx.InCore G.n (nbsOf G) (c.getD v 0 + 1) v) ∧ (bset r v = true → c.getD v 0 = kk))
    (fun k _ _ => (G.n + 2 - k).toNat)
    (fun z => ∃ c, z = ((), (c, ())) ∧ Hx.IsCores G.n (nbsOf G) c) (fun k r c hI => by
      obtain ⟨kk, rfl, hk, hr, hc, hin, hv⟩ := hI
      obtain ⟨r', h1, h2, h3⟩ := shrunk6.is hG hn (k := (kk : Int) + 1) hr
      have hin' : ∀ v, bset r' v = true ↔ Hx.InCore G.n (nbsOf G) ((kk : Int) + 1) v := fun v => by
        refine ⟨fun h => ⟨bset r', h, h3⟩, fun ⟨S, hS, hD⟩ => ?_⟩
        exact h2.top S hD (fun x hx => (hin x).2 (Hx.InCore.mono ⟨S, hx, hD⟩ (by omega))) v hS
      unfold R4
      simp only [h1.1, h1.2, if_true]
      refine led_dif (fun q1 => ?_) (fun q1 => led_x ⟨c, rfl, ?_⟩)
      · obtain ⟨x, hx⟩ := count_some q1
        have hx2 := ((hin' x).1 hx).lt
        have hlb := G.nb_length_le x
        have hkn : kk + 1 ≤ G.n := by
          have := hx2.2
          rw [show (nbsOf G x).length = (G.nb x).length from up_length _] at this
          omega
        obtain ⟨c', g1, g2, g3⟩ := F7_is hn (some (rowsOf G)) (k := (kk : Int) + 1) h2.len hc
        have hw : IntKind.wrap .i64 ((kk : Int) + 1 + 1) = (kk : Int) + 1 + 1 := wr (by omega) (by omega)
        simp only [g1, hw]
        refine led_k ⟨_, _, _, rfl, ⟨kk + 1, by omega, hkn, h2.len, g2, fun v => by rw [hin' v]; simp, fun v hvn => ?_⟩, by omega⟩
        obtain ⟨e1, e2, e3, e4⟩ := hv v hvn
        rw [g3 v hvn]
        cases hb : bset r' v with
        | true =>
          simp only [if_true]
          exact ⟨by omega, (hin' v).1 hb, fun h => (by cases h), fun _ => by omega⟩
        | false =>
          simp only [Bool.false_eq_true, if_false]
          refine ⟨e1, e2, fun _ => ?_, fun h => (by cases h)⟩
          cases hb0 : bset r v with
          | false => exact e3 hb0
          | true =>
            rw [e4 hb0]
            intro h
            rw [(hin' v).2 h] at hb
            cases hb
      · refine ⟨hc, fun v hvn => (hv v hvn).1, fun v hvn => (hv v hvn).2.1, fun v hvn => ?_⟩
        obtain ⟨e1, e2, e3, e4⟩ := hv v hvn
        cases hb0 : bset r v with
        | false => exact e3 hb0
        | true =>
          rw [e4 hb0]
          intro h
          have h4 := (hin' v).2 h
          rw [count_none q1 v] at h4
          cases h4) 1 (List.replicate G.n true) (List.replicate G.n 0) ⟨0, rfl, by omega, by simp, by simp, fun v => ?_, fun v hvn => ?_⟩
  · obtain ⟨z, hz, c, rfl, h⟩ := key
    exact ⟨c, hz, h⟩
  · refine ⟨fun h => ?_, fun h => ?_⟩
    · have : v < G.n := by
        rcases Nat.lt_or_ge v G.n with q | q
        · exact q
        · have e : bset (List.replicate G.n true) v = false := by show (List.replicate G.n true).getD v false = false; rw [List.getD_eq_getElem?_getD, List.getElem?_eq_none (by simpa using q)]; rfl
          rw [e] at h; cases h
      exact Hx.inCore_zero this
    · have := h.lt.1
      show (List.replicate G.n true).getD v false = true
      simp [List.getD_eq_getElem?_getD, this]
  · have e : (List.replicate G.n (0 : Int)).getD v 0 = 0 := Hx.getD_rep _ _ _
    rw [e]
    refine ⟨Int.le_refl _, Hx.inCore_zero hvn, fun h => ?_, fun _ => rfl⟩
    · have e2 : bset (List.replicate G.n true) v = true := by show (List.replicate G.n true).getD v false = true; simp [List.getD_eq_getElem?_getD, hvn]
      rw [e2] at h
      exact absurd h (by simp)
theorem is {G : Gr} (hG : G.Ok) (hn : G.n ≤ 16777216) : pre (some (rowsOf G)) = true ∧ fn (some (rowsOf G)) = (coresOf G, ()) := by
  obtain ⟨c, h1, h2⟩ := cores hG hn
  have room : G.n * 8 ≤ 140737488355328 := by omega
  have a1 : (0 : Int) ≤ (G.n : Int) := by omega
  refine is_fn _ ?_
  unfold run'
  simp only [(N5.is G).1, (N5.is G).2, (all6.is hn).1, (all6.is hn).2, a1, room, Int.toNat_natCast, h1, coresOf_is h2, if_true]
end Cores6
theorem coresOf_ok {G : Gr} (hG : G.Ok) (hn : G.n ≤ 16777216) : Hx.IsCores G.n (nbsOf G) (coresOf G) := by
  obtain ⟨c, _, h2⟩ := Cores6.cores hG hn
  rw [coresOf_is h2]
  exact h2
end Go.Proofs.Ythbojpaghbbnnaa.Z
namespace Go.Proofs.Ythbojpaghbbnnaa.Z
open Go Go.RowKit
set_option linter.unusedVariables false
set_option linter.unusedSimpArgs false
theorem num6.is (e : Int) : num6.pre e = true ∧ num6.fn e = (e, ()) := num6.is_fn _ rfl
abbrev l6 : List (Int × Int) := [(0, 1), (0, 2), (1, 2), (2, 3), (3, 4)]
theorem chap6.is : chap6.pre = true ∧ chap6.fn = (l6, ()) := chap6.is_fn rfl
theorem tmod_n (x : Int) : -121 < Int.tmod x 121 ∧ Int.tmod x 121 < 121 := by
  have g1 := Int.tmod_lt_of_pos x (show (0 : Int) < 121 by omega)
  have := Int.tmod_lt_of_pos (-x) (show (0 : Int) < 121 by omega)
  rw [Int.neg_tmod] at this
  omega
namespace made6
theorem F4_is {N : Nat} (hN : N ≤ 120) (l : List (Int × Int)) : ∃ r, F4 (N : Int) l 0 [] = some (((N : Int), ()), (r, ())) ∧ r.length ≤ 2000 ∧ prsOk (N : Int) r = true := by
  have key := F4_inv (n0 := (N : Int)) (l1 := l) (fun i r => ∃ k : Nat, i = (k : Int) ∧ k ≤ 2000 ∧ r.length ≤ k ∧ prsOk (N : Int) r = true) (fun i _ => 2000 - i.toNat)
    (fun z => ∃ r, z = (((N : Int), ()), (r, ())) ∧ r.length ≤ 2000 ∧ prsOk (N : Int) r = true) (fun i r hI => by
      obtain ⟨k, rfl, hk, hr, hp⟩ := hI
      unfold R4
      refine led_dif (fun q1 => ?_) (fun q1 => led_x ⟨r, rfl, by omega, hp⟩)
      refine led_dif (fun q2 => ?_) (fun q2 => led_x ⟨r, rfl, by omega, hp⟩)
      have hw : IntKind.wrap .i64 ((k : Int) + 1) = (k : Int) + 1 := wr (by omega) (by omega)
      have a1 : (0 : Int) ≤ (k : Int) := by omega
      obtain ⟨p, hp2⟩ : ∃ p, l.getD k (0, 0) = p := ⟨_, rfl⟩
      have room : (r.length + [p].length) * 16 ≤ 140737488355328 := by simp; omega
      have no : Led (fun (R : Type) (k' : V4 → Option R) (kx : X4 → Option R) => k' (((N : Int), l, (k : Int) + 1, ()), (r, ()))) (fun v => ∃ (i7' : Int) (r0' : List (Int × Int)), v = (((N : Int), l, i7', ()), (r0', ())) ∧ (∃ k : Nat, i7' = (k : Int) ∧ k ≤ 2000 ∧ r0'.length ≤ k ∧ prsOk (N : Int) r0' = true) ∧ 2000 - i7'.toNat < 2000 - ((k : Nat) : Int).toNat) (fun z => ∃ r, z = (((N : Int), ()), (r, ())) ∧ r.length ≤ 2000 ∧ prsOk (N : Int) r = true) := led_k ⟨_, _, rfl, ⟨k + 1, by omega, by omega, by omega, hp⟩, by omega⟩
      simp only [Int.toNat_natCast, hw, a1, q1, hp2, room, if_true]
      refine led_dif (fun c1 => ?_) (fun c1 => no)
      refine led_dif (fun c2 => ?_) (fun c2 => no)
      refine led_dif (fun c3 => ?_) (fun c3 => no)
      refine led_dif (fun c4 => ?_) (fun c4 => no)
      refine led_k ⟨_, _, rfl, ⟨k + 1, by omega, by omega, by simp; omega, ?_⟩, by omega⟩
      unfold prsOk at hp ⊢
      rw [List.all_append, hp]
      simp only [Bool.true_and, List.all_cons, List.all_nil, Bool.and_true, Int.toNat_natCast]
      exact okP_iff.2 ⟨⟨by omega, by omega⟩, by omega, by omega⟩) 0 [] ⟨0, rfl, by omega, by simp, rfl⟩
  obtain ⟨z, hz, r, rfl, h⟩ := key
  exact ⟨r, hz, h⟩
theorem is (n : Int) (l : List (Int × Int)) : ∃ G : Gr, G.Ok ∧ G.n ≤ 120 ∧ pre n l = true ∧ fn n l = (some G, some (rowsOf G), ()) := by
  have t1 := tmod_n n
  have w1 : IntKind.wrap .i64 (Int.tmod n 121 + 120) = Int.tmod n 121 + 120 := wr (by omega) (by omega)
  have w2 : IntKind.wrap .i64 (Int.tmod n 121 + 120 + 1) = Int.tmod n 121 + 120 + 1 := wr (by omega) (by omega)
  have t2 := Int.tmod_lt_of_pos (Int.tmod n 121 + 120 + 1) (show (0 : Int) < 121 by omega)
  have t3 := Int.tmod_nonneg 121 (show 0 ≤ Int.tmod n 121 + 120 + 1 by omega)
  obtain ⟨N, hN⟩ : ∃ N : Nat, Int.tmod (Int.tmod n 121 + 120 + 1) 121 = (N : Int) := ⟨(Int.tmod (Int.tmod n 121 + 120 + 1) 121).toNat, by omega⟩
  rw [hN] at t2
  obtain ⟨r, h1, h2, h3⟩ := F4_is (N := N) (by omega) l
  have hi : inN (N : Int) = true := by simp [inN]; omega
  have k := Make5.is (n := (N : Int)) (l := r) (by omega)
  have hO : (Gr.ofPairs N r).Ok := ofPairs_ok (by omega) (fun p hp => List.all_eq_true.1 h3 p hp)
  refine ⟨Gr.ofPairs N r, hO, (show N ≤ 120 by omega), is_fn _ _ ?_⟩
  unfold run'
  rw [w1, w2, hN, h1]
  simp only [Make.pre, Make.fn, k.1, k.2, hi, h3, (num6.is _).1, (num6.is _).2, if_true, Int.toNat_natCast]
  simp
end made6
end Go.Proofs.Ythbojpaghbbnnaa.Z
