/- Plain laws of the functions of WA. No condition. -/
import Derived.Test.YthbojpaghbbnnaaZN
import Derived.Test.YthbojpaghbbnnaaZP
import Derived.Test.YthbojpaghbbnnaaZT
import Derived.KernelRfl
import Derived.Test.YthbojpaghbbnnaaHC
import Derived.Test.YthbojpaghbbnnaaZR
namespace Go.Proofs.Ythbojpaghbbnnaa.Z
open Go Go.RowKit
set_option linter.unusedVariables false
set_option linter.unusedSimpArgs false
/-! pith/pithref7.here -/
namespace here
abbrev ps : List PM := [.val (.list I64), .val (.list .bool)]
abbrev rs : List PM := [.val I64]
noncomputable abbrev code : Code := (Go.Proofs.Try.f131.body.getD .skip)
abbrev s3 : Shape := ⟨[.v (.list I64), .v (.list .bool), .un, .un, .un, .v I64, .v I64, .un, .un, .un, .un, .un, .un, .un, .un, .un, .un, .un, .un, .un, .un, .un, .un], []⟩
abbrev x3 : List Way := [⟨(.ex 0), ⟨[(5, none)]⟩, ⟨[.un, .un, .un, .un, .un, .v I64, .un, .un, .un, .un, .un, .un, .un, .un, .un, .un, .un, .un, .un, .un, .un, .un, .un], []⟩⟩]
abbrev V3 : Type := ((List Int) × (List Bool) × Int × Int × Unit) × (Unit)
abbrev X3 : Type := (Int × Unit) × (Unit)
noncomputable def R3 {R : Type} (l0 : (List Int)) (left1 : (List Bool)) (n5 : Int) (i6 : Int) (k : V3 → Option R) (kx : X3 → Option R) : Option R := (if Decidable.decide (i6 < (↑(List.length l0) : Int)) = Bool.true then (if (0 : Int) ≤ i6 then (if i6 < (↑(List.length l0) : Int) then (if (0 : Int) ≤ List.getD l0 (Int.toNat i6) (0 : Int) then (if List.getD l0 (Int.toNat i6) (0 : Int) < (↑(List.length left1) : Int) then (if List.getD left1 (Int.toNat (List.getD l0 (Int.toNat i6) (0 : Int))) Bool.false = Bool.true then k ((l0, left1, IntKind.wrap .i64 (n5 + (1 : Int)), IntKind.wrap .i64 (i6 + (1 : Int)), ()), (()))
 else k ((l0, left1, n5, IntKind.wrap .i64 (i6 + (1 : Int)), ()), (())))
 else none)
 else none)
 else none)
 else none)
 else kx (((n5, ()), (()))))
noncomputable def rd3 : Rd (VO s3) (Xs x3) := fun v k kx => match v with
  | ((l0, left1, n5, i6, _), _) => R3 l0 left1 n5 i6 k kx
noncomputable def F3 (l0 : (List Int)) (left1 : (List Bool)) (n5 : Int) (i6 : Int) : Option X3 := finOf rd3 ((l0, left1, n5, i6, ()), (()))
theorem F3_inv {l0 : (List Int)} {left1 : (List Bool)} (I : Int → Int → Prop) (μ : Int → Int → Nat) (Q : X3 → Prop) (h : ∀ (n5 : Int) (i6 : Int), I n5 i6 → Led (fun (R : Type) (k : V3 → Option R) (kx : X3 → Option R) => R3 l0 left1 n5 i6 k kx) (fun v => ∃ (n5' : Int) (i6' : Int), v = ((l0, left1, n5', i6', ()), ()) ∧ I n5' i6' ∧ μ n5' i6' < μ n5 i6) Q) : ∀ (n5 : Int) (i6 : Int), I n5 i6 → ∃ z, F3 l0 left1 n5 i6 = some z ∧ Q z := fun n5 i6 hi => by
  refine finOf_inv (V := V3) (X := X3) (rd := rd3) (fun v => ∃ (n5' : Int) (i6' : Int), v = ((l0, left1, n5', i6', ()), ()) ∧ I n5' i6') (fun v => match v with
    | ((l0, left1, n5, i6, _), _) => μ n5 i6) Q (fun v hv => ?_) ((l0, left1, n5, i6, ()), ()) ⟨n5, i6, rfl, hi⟩
  obtain ⟨n5, i6, rfl, hi⟩ := hv
  refine led_mono (h n5 i6 hi) ?_ (fun _ q => q)
  rintro v ⟨n5', i6', rfl, h1, h2⟩
  exact ⟨⟨n5', i6', rfl, h1⟩, h2⟩
theorem F3_of (C : (List Int) → (List Bool) → Int → Int → Option X3) (μ : (List Int) → (List Bool) → Int → Int → Nat) (h : ∀ (l0 : (List Int)) (left1 : (List Bool)) (n5 : Int) (i6 : Int) (z : X3), C l0 left1 n5 i6 = some z → (∃ (l0' : (List Int)) (left1' : (List Bool)) (n5' : Int) (i6' : Int), μ l0' left1' n5' i6' < μ l0 left1 n5 i6 ∧ C l0' left1' n5' i6' = some z ∧ ∀ (R : Type) (k : V3 → Option R) (kx : X3 → Option R), R3 l0 left1 n5 i6 k kx = k ((l0', left1', n5', i6', ()), (()))) ∨ ∀ (R : Type) (k : V3 → Option R) (kx : X3 → Option R), R3 l0 left1 n5 i6 k kx = kx z) : ∀ (l0 : (List Int)) (left1 : (List Bool)) (n5 : Int) (i6 : Int)  (z : X3), C l0 left1 n5 i6 = some z → F3 l0 left1 n5 i6 = some z := fun l0 left1 n5 i6 z hz => finOf_of (V := V3) (X := X3) (rd := rd3) (fun v => match v with
    | ((l0, left1, n5, i6, _), _) => C l0 left1 n5 i6) (fun v => match v with
    | ((l0, left1, n5, i6, _), _) => μ l0 left1 n5 i6) (fun v z hz => by
  obtain ⟨⟨l0, left1, n5, i6, _⟩, ⟨_⟩⟩ := v
  rcases h l0 left1 n5 i6 z hz with ⟨l0', left1', n5', i6', h1, h2, h3⟩ | h3
  · exact .inl ⟨((l0', left1', n5', i6', ()), (())), h1, h2, h3⟩
  · exact .inr h3) ((l0, left1, n5, i6, ()), (())) z hz
noncomputable def L3 : Lp := ⟨3, ⟨[(0, none), (1, none), (5, none), (6, none)]⟩, s3, x3, fun v => match v with
  | ((l0, left1, n5, i6, _), _) => F3 l0 left1 n5 i6⟩
theorem ends3 : Ends L3 rd3 := ends_fin (fun v => by
  obtain ⟨⟨l0, left1, n5, i6, _⟩, ⟨_⟩⟩ := v
  rfl)
noncomputable def env : Env := mkEnv tab [] 0 [] [L3]
theorem round3 : RoundIs env (sub [true, true, false, true, false, false] code) L3 rd3 := fun R v k kx => by kernel_rfl
abbrev D : Type := (Int × Unit)
noncomputable def run' (l0 : (List Int)) (left1 : (List Bool)) : Option D := (match F3 (l0) (left1) ((0 : Int)) ((0 : Int)) with
  | some (((n5_1, _), _)) => some (n5_1, ())
  | none => none)
noncomputable def run (d : Ds (List.map PM.ty ps)) : Option (Ds (muts ps ++ List.map PM.ty rs)) := match d with
  | (l0, left1, _) => run' l0 left1
theorem run_is : ∀ d, runF env 23 code [4] ps rs d = run d := fun d => by kernel_rfl
theorem loops : LoopsOk env code := loopsOk_of (l := [[true, true, false, true, false, false]]) (by kernel_rfl) (fun p hp => by
  simp only [List.mem_cons, List.not_mem_nil, or_false] at hp
  rcases hp with rfl
  · exact loopOk_lp (L := L3) (x := sub [true, true, false, true, false, false] code) (by kernel_rfl) (by simp [L3]) round3 ends3
  )
noncomputable def pre (l0 : (List Int)) (left1 : (List Bool)) : Bool := (run' l0 left1).isSome
noncomputable def fn (l0 : (List Int)) (left1 : (List Bool)) : D := match run' l0 left1 with
  | some x => x
  | none => default
noncomputable def sig : Sig := ⟨ps, rs, fun d => match d with
  | (l0, left1, _) => pre l0 left1, fun d => match d with
  | (l0, left1, _) => fn l0 left1⟩
theorem run_fn (l0 : (List Int)) (left1 : (List Bool)) (h : pre l0 left1 = true) : run' l0 left1 = some (fn l0 left1) := by
  unfold pre at h
  unfold fn
  cases e : run' l0 left1 with
  | some x => rfl
  | none => rw [e] at h; cases h
theorem is_fn (l0 : (List Int)) (left1 : (List Bool)) {x : D} (h : run' l0 left1 = some x) : pre l0 left1 = true ∧ fn l0 left1 = x := by
  unfold pre fn
  rw [h]
  exact ⟨rfl, rfl⟩
theorem sound {ρ : Obs} (hE : EnvOk Go.Proofs.Try.prog ρ env) : Sound Go.Proofs.Try.prog ρ 131 sig := sound_of (fn := Go.Proofs.Try.f131) (c := code) (res := [4]) hE (by kernel_rfl) (by kernel_rfl) (by kernel_rfl) (by kernel_rfl) (by kernel_rfl) loops rfl (show 2 ≤ 23 by decide) (fun d hd => (run_is d).trans (by
  obtain ⟨l0, left1, _⟩ := d
  exact run_fn l0 left1 hd))
theorem enters : Enters Go.Proofs.Try.prog 131 := enters_of (fn := Go.Proofs.Try.f131) (by kernel_rfl) (by kernel_rfl) (by kernel_rfl)
theorem ok {ρ : Obs} (h : ∀ p ∈ ([] : List (FuncId × Sig)), Enters Go.Proofs.Try.prog p.1 ∧ Sound Go.Proofs.Try.prog ρ p.1 p.2) : Enters Go.Proofs.Try.prog 131 ∧ Sound Go.Proofs.Try.prog ρ 131 sig := ⟨enters, sound (envOk_of tabOk h)⟩
end here
/-! pith/pithref7.H -/
namespace H7
abbrev ps : List PM := [.val (.list I64), .val I64]
abbrev rs : List PM := [.val I64]
noncomputable abbrev code : Code := (Go.Proofs.Try.f69.body.getD .skip)
abbrev s7 : Shape := ⟨[.v (.list I64), .v I64, .un, .un, .un, .v I64, .v I64, .v I64, .un, .un, .un, .un, .un, .un, .un, .un, .un, .un, .un, .un, .un, .un, .un, .un, .un, .un, .un, .un, .un, .un, .un, .un, .un, .un, .un], []⟩
abbrev x7 : List Way := [⟨(.ex 2), ⟨[(0, none), (1, none), (5, none), (6, none)]⟩, ⟨[.v (.list I64), .v I64, .un, .un, .un, .v I64, .v I64, .un, .un, .un, .un, .un, .un, .un, .un, .un, .un, .un, .un, .un, .un, .un, .un, .un, .un, .un, .un, .un, .un, .un, .un, .un, .un, .un, .un], []⟩⟩]
abbrev V7 : Type := ((List Int) × Int × Int × Int × Int × Unit) × (Unit)
abbrev X7 : Type := ((List Int) × Int × Int × Int × Unit) × (Unit)
noncomputable def R7 {R : Type} (l0 : (List Int)) (most1 : Int) (h5 : Int) (n6 : Int) (i7 : Int) (k : V7 → Option R) (kx : X7 → Option R) : Option R := (if Decidable.decide (i7 < (↑(List.length l0) : Int)) = Bool.true then (if (0 : Int) ≤ i7 then (if i7 < (↑(List.length l0) : Int) then (if Decidable.decide (List.getD l0 (Int.toNat i7) (0 : Int) ≥ h5) = Bool.true then k ((l0, most1, h5, IntKind.wrap .i64 (n6 + (1 : Int)), IntKind.wrap .i64 (i7 + (1 : Int)), ()), (()))
 else k ((l0, most1, h5, n6, IntKind.wrap .i64 (i7 + (1 : Int)), ()), (())))
 else none)
 else none)
 else kx (((l0, most1, h5, n6, ()), (()))))
noncomputable def rd7 : Rd (VO s7) (Xs x7) := fun v k kx => match v with
  | ((l0, most1, h5, n6, i7, _), _) => R7 l0 most1 h5 n6 i7 k kx
noncomputable def F7 (l0 : (List Int)) (most1 : Int) (h5 : Int) (n6 : Int) (i7 : Int) : Option X7 := finOf rd7 ((l0, most1, h5, n6, i7, ()), (()))
theorem F7_inv {l0 : (List Int)} {most1 : Int} {h5 : Int} (I : Int → Int → Prop) (μ : Int → Int → Nat) (Q : X7 → Prop) (h : ∀ (n6 : Int) (i7 : Int), I n6 i7 → Led (fun (R : Type) (k : V7 → Option R) (kx : X7 → Option R) => R7 l0 most1 h5 n6 i7 k kx) (fun v => ∃ (n6' : Int) (i7' : Int), v = ((l0, most1, h5, n6', i7', ()), ()) ∧ I n6' i7' ∧ μ n6' i7' < μ n6 i7) Q) : ∀ (n6 : Int) (i7 : Int), I n6 i7 → ∃ z, F7 l0 most1 h5 n6 i7 = some z ∧ Q z := fun n6 i7 hi => by
  refine finOf_inv (V := V7) (X := X7) (rd := rd7) (fun v => ∃ (n6' : Int) (i7' : Int), v = ((l0, most1, h5, n6', i7', ()), ()) ∧ I n6' i7') (fun v => match v with
    | ((l0, most1, h5, n6, i7, _), _) => μ n6 i7) Q (fun v hv => ?_) ((l0, most1, h5, n6, i7, ()), ()) ⟨n6, i7, rfl, hi⟩
  obtain ⟨n6, i7, rfl, hi⟩ := hv
  refine led_mono (h n6 i7 hi) ?_ (fun _ q => q)
  rintro v ⟨n6', i7', rfl, h1, h2⟩
  exact ⟨⟨n6', i7', rfl, h1⟩, h2⟩
theorem F7_of (C : (List Int) → Int → Int → Int → Int → Option X7) (μ : (List Int) → Int → Int → Int → Int → Nat) (h : ∀ (l0 : (List Int)) (most1 : Int) (h5 : Int) (n6 : Int) (i7 : Int) (z : X7), C l0 most1 h5 n6 i7 = some z → (∃ (l0' : (List Int)) (most1' : Int) (h5' : Int) (n6' : Int) (i7' : Int), μ l0' most1' h5' n6' i7' < μ l0 most1 h5 n6 i7 ∧ C l0' most1' h5' n6' i7' = some z ∧ ∀ (R : Type) (k : V7 → Option R) (kx : X7 → Option R), R7 l0 most1 h5 n6 i7 k kx = k ((l0', most1', h5', n6', i7', ()), (()))) ∨ ∀ (R : Type) (k : V7 → Option R) (kx : X7 → Option R), R7 l0 most1 h5 n6 i7 k kx = kx z) : ∀ (l0 : (List Int)) (most1 : Int) (h5 : Int) (n6 : Int) (i7 : Int)  (z : X7), C l0 most1 h5 n6 i7 = some z → F7 l0 most1 h5 n6 i7 = some z := fun l0 most1 h5 n6 i7 z hz => finOf_of (V := V7) (X := X7) (rd := rd7) (fun v => match v with
    | ((l0, most1, h5, n6, i7, _), _) => C l0 most1 h5 n6 i7) (fun v => match v with
    | ((l0, most1, h5, n6, i7, _), _) => μ l0 most1 h5 n6 i7) (fun v z hz => by
  obtain ⟨⟨l0, most1, h5, n6, i7, _⟩, ⟨_⟩⟩ := v
  rcases h l0 most1 h5 n6 i7 z hz with ⟨l0', most1', h5', n6', i7', h1, h2, h3⟩ | h3
  · exact .inl ⟨((l0', most1', h5', n6', i7', ()), (())), h1, h2, h3⟩
  · exact .inr h3) ((l0, most1, h5, n6, i7, ()), (())) z hz
noncomputable def L7 : Lp := ⟨7, ⟨[(0, none), (1, none), (5, none), (6, none), (7, none)]⟩, s7, x7, fun v => match v with
  | ((l0, most1, h5, n6, i7, _), _) => F7 l0 most1 h5 n6 i7⟩
theorem ends7 : Ends L7 rd7 := ends_fin (fun v => by
  obtain ⟨⟨l0, most1, h5, n6, i7, _⟩, ⟨_⟩⟩ := v
  rfl)
abbrev s2 : Shape := ⟨[.v (.list I64), .v I64, .un, .un, .un, .v I64, .un, .un, .un, .un, .un, .un, .un, .un, .un, .un, .un, .un, .un, .un, .un, .un, .un, .un, .un, .un, .un, .un, .un, .un, .un, .un, .un, .un, .un], []⟩
abbrev x2 : List Way := [⟨.rt, ⟨[(4, none)]⟩, ⟨[.un, .un, .un, .un, .v I64, .un, .un, .un, .un, .un, .un, .un, .un, .un, .un, .un, .un, .un, .un, .un, .un, .un, .un, .un, .un, .un, .un, .un, .un, .un, .un, .un, .un, .un, .un], []⟩⟩, ⟨(.ex 0), ⟨[]⟩, ⟨[.un, .un, .un, .un, .un, .un, .un, .un, .un, .un, .un, .un, .un, .un, .un, .un, .un, .un, .un, .un, .un, .un, .un, .un, .un, .un, .un, .un, .un, .un, .un, .un, .un, .un, .un], []⟩⟩]
abbrev V2 : Type := ((List Int) × Int × Int × Unit) × (Unit)
abbrev X2 : Type := ((Int × Unit) × (Unit)) ⊕ ((Unit) × (Unit))
noncomputable def R2 {R : Type} (l0 : (List Int)) (most1 : Int) (h5 : Int) (k : V2 → Option R) (kx : X2 → Option R) : Option R := (if Decidable.decide (h5 > (0 : Int)) = Bool.true then (if Decidable.decide (h5 > most1) = Bool.true then k ((l0, most1, IntKind.wrap .i64 (h5 - (1 : Int)), ()), (()))
 else (match F7 (l0) (most1) (h5) ((0 : Int)) ((0 : Int)) with
  | some (((l0_1, most1_1, h5_1, n6_1, _), _)) => (if Decidable.decide (n6_1 ≥ h5_1) = Bool.true then kx (Sum.inl <| ((h5_1, ()), (())))
 else k ((l0_1, most1_1, IntKind.wrap .i64 (h5_1 - (1 : Int)), ()), (())))
  | none => none))
 else kx (Sum.inr <| ((()), (()))))
noncomputable def rd2 : Rd (VO s2) (Xs x2) := fun v k kx => match v with
  | ((l0, most1, h5, _), _) => R2 l0 most1 h5 k kx
noncomputable def F2 (l0 : (List Int)) (most1 : Int) (h5 : Int) : Option X2 := finOf rd2 ((l0, most1, h5, ()), (()))
theorem F2_inv {l0 : (List Int)} {most1 : Int} (I : Int → Prop) (μ : Int → Nat) (Q : X2 → Prop) (h : ∀ (h5 : Int), I h5 → Led (fun (R : Type) (k : V2 → Option R) (kx : X2 → Option R) => R2 l0 most1 h5 k kx) (fun v => ∃ (h5' : Int), v = ((l0, most1, h5', ()), ()) ∧ I h5' ∧ μ h5' < μ h5) Q) : ∀ (h5 : Int), I h5 → ∃ z, F2 l0 most1 h5 = some z ∧ Q z := fun h5 hi => by
  refine finOf_inv (V := V2) (X := X2) (rd := rd2) (fun v => ∃ (h5' : Int), v = ((l0, most1, h5', ()), ()) ∧ I h5') (fun v => match v with
    | ((l0, most1, h5, _), _) => μ h5) Q (fun v hv => ?_) ((l0, most1, h5, ()), ()) ⟨h5, rfl, hi⟩
  obtain ⟨h5, rfl, hi⟩ := hv
  refine led_mono (h h5 hi) ?_ (fun _ q => q)
  rintro v ⟨h5', rfl, h1, h2⟩
  exact ⟨⟨h5', rfl, h1⟩, h2⟩
theorem F2_of (C : (List Int) → Int → Int → Option X2) (μ : (List Int) → Int → Int → Nat) (h : ∀ (l0 : (List Int)) (most1 : Int) (h5 : Int) (z : X2), C l0 most1 h5 = some z → (∃ (l0' : (List Int)) (most1' : Int) (h5' : Int), μ l0' most1' h5' < μ l0 most1 h5 ∧ C l0' most1' h5' = some z ∧ ∀ (R : Type) (k : V2 → Option R) (kx : X2 → Option R), R2 l0 most1 h5 k kx = k ((l0', most1', h5', ()), (()))) ∨ ∀ (R : Type) (k : V2 → Option R) (kx : X2 → Option R), R2 l0 most1 h5 k kx = kx z) : ∀ (l0 : (List Int)) (most1 : Int) (h5 : Int)  (z : X2), C l0 most1 h5 = some z → F2 l0 most1 h5 = some z := fun l0 most1 h5 z hz => finOf_of (V := V2) (X := X2) (rd := rd2) (fun v => match v with
    | ((l0, most1, h5, _), _) => C l0 most1 h5) (fun v => match v with
    | ((l0, most1, h5, _), _) => μ l0 most1 h5) (fun v z hz => by
  obtain ⟨⟨l0, most1, h5, _⟩, ⟨_⟩⟩ := v
  rcases h l0 most1 h5 z hz with ⟨l0', most1', h5', h1, h2, h3⟩ | h3
  · exact .inl ⟨((l0', most1', h5', ()), (())), h1, h2, h3⟩
  · exact .inr h3) ((l0, most1, h5, ()), (())) z hz
noncomputable def L2 : Lp := ⟨2, ⟨[(0, none), (1, none), (5, none)]⟩, s2, x2, fun v => match v with
  | ((l0, most1, h5, _), _) => F2 l0 most1 h5⟩
theorem ends2 : Ends L2 rd2 := ends_fin (fun v => by
  obtain ⟨⟨l0, most1, h5, _⟩, ⟨_⟩⟩ := v
  rfl)
noncomputable def env : Env := mkEnv tab [] 0 [] [L7, L2]
theorem round7 : RoundIs env (sub [true, false, true, false, false, true, false, false, true, true, false, true, false, false] code) L7 rd7 := fun R v k kx => by kernel_rfl
theorem round2 : RoundIs env (sub [true, false, true, false, false] code) L2 rd2 := fun R v k kx => by kernel_rfl
abbrev D : Type := (Int × Unit)
noncomputable def run' (l0 : (List Int)) (most1 : Int) : Option D := (match F2 (l0) (most1) ((↑(List.length l0) : Int)) with
  | some (Sum.inl <| ((t4_2, _), _)) => some (t4_2, ())
  | some (Sum.inr <| (_, _)) => some ((0 : Int), ())
  | none => none)
noncomputable def run (d : Ds (List.map PM.ty ps)) : Option (Ds (muts ps ++ List.map PM.ty rs)) := match d with
  | (l0, most1, _) => run' l0 most1
theorem run_is : ∀ d, runF env 35 code [4] ps rs d = run d := fun d => by kernel_rfl
theorem loops : LoopsOk env code := loopsOk_of (l := [[true, false, true, false, false], [true, false, true, false, false, true, false, false, true, true, false, true, false, false]]) (by kernel_rfl) (fun p hp => by
  simp only [List.mem_cons, List.not_mem_nil, or_false] at hp
  rcases hp with rfl | rfl
  · exact loopOk_lp (L := L2) (x := sub [true, false, true, false, false] code) (by kernel_rfl) (by simp [L2]) round2 ends2
  · exact loopOk_lp (L := L7) (x := sub [true, false, true, false, false, true, false, false, true, true, false, true, false, false] code) (by kernel_rfl) (by simp [L7]) round7 ends7
  )
noncomputable def pre (l0 : (List Int)) (most1 : Int) : Bool := (run' l0 most1).isSome
noncomputable def fn (l0 : (List Int)) (most1 : Int) : D := match run' l0 most1 with
  | some x => x
  | none => default
noncomputable def sig : Sig := ⟨ps, rs, fun d => match d with
  | (l0, most1, _) => pre l0 most1, fun d => match d with
  | (l0, most1, _) => fn l0 most1⟩
theorem run_fn (l0 : (List Int)) (most1 : Int) (h : pre l0 most1 = true) : run' l0 most1 = some (fn l0 most1) := by
  unfold pre at h
  unfold fn
  cases e : run' l0 most1 with
  | some x => rfl
  | none => rw [e] at h; cases h
theorem is_fn (l0 : (List Int)) (most1 : Int) {x : D} (h : run' l0 most1 = some x) : pre l0 most1 = true ∧ fn l0 most1 = x := by
  unfold pre fn
  rw [h]
  exact ⟨rfl, rfl⟩
theorem sound {ρ : Obs} (hE : EnvOk Go.Proofs.Try.prog ρ env) : Sound Go.Proofs.Try.prog ρ 69 sig := sound_of (fn := Go.Proofs.Try.f69) (c := code) (res := [4]) hE (by kernel_rfl) (by kernel_rfl) (by kernel_rfl) (by kernel_rfl) (by kernel_rfl) loops rfl (show 2 ≤ 35 by decide) (fun d hd => (run_is d).trans (by
  obtain ⟨l0, most1, _⟩ := d
  exact run_fn l0 most1 hd))
theorem enters : Enters Go.Proofs.Try.prog 69 := enters_of (fn := Go.Proofs.Try.f69) (by kernel_rfl) (by kernel_rfl) (by kernel_rfl)
theorem ok {ρ : Obs} (h : ∀ p ∈ ([] : List (FuncId × Sig)), Enters Go.Proofs.Try.prog p.1 ∧ Sound Go.Proofs.Try.prog ρ p.1 p.2) : Enters Go.Proofs.Try.prog 69 ∧ Sound Go.Proofs.Try.prog ρ 69 sig := ⟨enters, sound (envOk_of tabOk h)⟩
end H7
/-! pith/pithref.SameInts -/
namespace SameInts
abbrev ps : List PM := [.val (.list I64), .val (.list I64)]
abbrev rs : List PM := [.val .bool]
noncomputable abbrev code : Code := (Go.Proofs.Try.f53.body.getD .skip)
abbrev s4 : Shape := ⟨[.v (.list I64), .v (.list I64), .un, .un, .un, .v I64, .un, .un, .un, .un, .un, .un, .un, .un, .un, .un, .un, .un, .un, .un, .un, .un, .un, .un, .un, .un, .un], []⟩
abbrev x4 : List Way := [⟨.rt, ⟨[(4, none)]⟩, ⟨[.un, .un, .un, .un, .v .bool, .un, .un, .un, .un, .un, .un, .un, .un, .un, .un, .un, .un, .un, .un, .un, .un, .un, .un, .un, .un, .un, .un], []⟩⟩, ⟨(.ex 0), ⟨[]⟩, ⟨[.un, .un, .un, .un, .un, .un, .un, .un, .un, .un, .un, .un, .un, .un, .un, .un, .un, .un, .un, .un, .un, .un, .un, .un, .un, .un, .un], []⟩⟩]
abbrev V4 : Type := ((List Int) × (List Int) × Int × Unit) × (Unit)
abbrev X4 : Type := ((Bool × Unit) × (Unit)) ⊕ ((Unit) × (Unit))
noncomputable def R4 {R : Type} (a0 : (List Int)) (b1 : (List Int)) (i5 : Int) (k : V4 → Option R) (kx : X4 → Option R) : Option R := (if Decidable.decide (i5 < (↑(List.length a0) : Int)) = Bool.true then (if (0 : Int) ≤ i5 then (if i5 < (↑(List.length a0) : Int) then (if (0 : Int) ≤ i5 then (if i5 < (↑(List.length b1) : Int) then (if (!List.getD a0 (Int.toNat i5) (0 : Int) == List.getD b1 (Int.toNat i5) (0 : Int)) = Bool.true then kx (Sum.inl <| ((Bool.false, ()), (())))
 else k ((a0, b1, IntKind.wrap .i64 (i5 + (1 : Int)), ()), (())))
 else none)
 else none)
 else none)
 else none)
 else kx (Sum.inr <| ((()), (()))))
noncomputable def rd4 : Rd (VO s4) (Xs x4) := fun v k kx => match v with
  | ((a0, b1, i5, _), _) => R4 a0 b1 i5 k kx
noncomputable def F4 (a0 : (List Int)) (b1 : (List Int)) (i5 : Int) : Option X4 := finOf rd4 ((a0, b1, i5, ()), (()))
theorem F4_inv {a0 : (List Int)} {b1 : (List Int)} (I : Int → Prop) (μ : Int → Nat) (Q : X4 → Prop) (h : ∀ (i5 : Int), I i5 → Led (fun (R : Type) (k : V4 → Option R) (kx : X4 → Option R) => R4 a0 b1 i5 k kx) (fun v => ∃ (i5' : Int), v = ((a0, b1, i5', ()), ()) ∧ I i5' ∧ μ i5' < μ i5) Q) : ∀ (i5 : Int), I i5 → ∃ z, F4 a0 b1 i5 = some z ∧ Q z := fun i5 hi => by
  refine finOf_inv (V := V4) (X := X4) (rd := rd4) (fun v => ∃ (i5' : Int), v = ((a0, b1, i5', ()), ()) ∧ I i5') (fun v => match v with
    | ((a0, b1, i5, _), _) => μ i5) Q (fun v hv => ?_) ((a0, b1, i5, ()), ()) ⟨i5, rfl, hi⟩
  obtain ⟨i5, rfl, hi⟩ := hv
  refine led_mono (h i5 hi) ?_ (fun _ q => q)
  rintro v ⟨i5', rfl, h1, h2⟩
  exact ⟨⟨i5', rfl, h1⟩, h2⟩
theorem F4_of (C : (List Int) → (List Int) → Int → Option X4) (μ : (List Int) → (List Int) → Int → Nat) (h : ∀ (a0 : (List Int)) (b1 : (List Int)) (i5 : Int) (z : X4), C a0 b1 i5 = some z → (∃ (a0' : (List Int)) (b1' : (List Int)) (i5' : Int), μ a0' b1' i5' < μ a0 b1 i5 ∧ C a0' b1' i5' = some z ∧ ∀ (R : Type) (k : V4 → Option R) (kx : X4 → Option R), R4 a0 b1 i5 k kx = k ((a0', b1', i5', ()), (()))) ∨ ∀ (R : Type) (k : V4 → Option R) (kx : X4 → Option R), R4 a0 b1 i5 k kx = kx z) : ∀ (a0 : (List Int)) (b1 : (List Int)) (i5 : Int)  (z : X4), C a0 b1 i5 = some z → F4 a0 b1 i5 = some z := fun a0 b1 i5 z hz => finOf_of (V := V4) (X := X4) (rd := rd4) (fun v => match v with
    | ((a0, b1, i5, _), _) => C a0 b1 i5) (fun v => match v with
    | ((a0, b1, i5, _), _) => μ a0 b1 i5) (fun v z hz => by
  obtain ⟨⟨a0, b1, i5, _⟩, ⟨_⟩⟩ := v
  rcases h a0 b1 i5 z hz with ⟨a0', b1', i5', h1, h2, h3⟩ | h3
  · exact .inl ⟨((a0', b1', i5', ()), (())), h1, h2, h3⟩
  · exact .inr h3) ((a0, b1, i5, ()), (())) z hz
noncomputable def L4 : Lp := ⟨4, ⟨[(0, none), (1, none), (5, none)]⟩, s4, x4, fun v => match v with
  | ((a0, b1, i5, _), _) => F4 a0 b1 i5⟩
theorem ends4 : Ends L4 rd4 := ends_fin (fun v => by
  obtain ⟨⟨a0, b1, i5, _⟩, ⟨_⟩⟩ := v
  rfl)
noncomputable def env : Env := mkEnv tab [] 0 [(6, [0, 1, 2, 3, 4, 5, 6, 7, 8, 9])] [L4]
theorem round4 : RoundIs env (sub [true, true, false, true, false, false] code) L4 rd4 := fun R v k kx => by kernel_rfl
abbrev D : Type := (Bool × Unit)
noncomputable def run' (a0 : (List Int)) (b1 : (List Int)) : Option D := (if ((↑(List.length a0) : Int) != (↑(List.length b1) : Int)) = Bool.true then some (Bool.false, ())
 else (match F4 (a0) (b1) ((0 : Int)) with
  | some (Sum.inl <| ((t4_1, _), _)) => some (t4_1, ())
  | some (Sum.inr <| (_, _)) => some (Bool.true, ())
  | none => none))
noncomputable def run (d : Ds (List.map PM.ty ps)) : Option (Ds (muts ps ++ List.map PM.ty rs)) := match d with
  | (a0, b1, _) => run' a0 b1
theorem run_is : ∀ d, runF env 27 code [4] ps rs d = run d := fun d => by kernel_rfl
theorem loops : LoopsOk env code := loopsOk_of (l := [[true, true, false, true, false, false]]) (by kernel_rfl) (fun p hp => by
  simp only [List.mem_cons, List.not_mem_nil, or_false] at hp
  rcases hp with rfl
  · exact loopOk_lp (L := L4) (x := sub [true, true, false, true, false, false] code) (by kernel_rfl) (by simp [L4]) round4 ends4
  )
noncomputable def pre (a0 : (List Int)) (b1 : (List Int)) : Bool := (run' a0 b1).isSome
noncomputable def fn (a0 : (List Int)) (b1 : (List Int)) : D := match run' a0 b1 with
  | some x => x
  | none => default
noncomputable def sig : Sig := ⟨ps, rs, fun d => match d with
  | (a0, b1, _) => pre a0 b1, fun d => match d with
  | (a0, b1, _) => fn a0 b1⟩
theorem run_fn (a0 : (List Int)) (b1 : (List Int)) (h : pre a0 b1 = true) : run' a0 b1 = some (fn a0 b1) := by
  unfold pre at h
  unfold fn
  cases e : run' a0 b1 with
  | some x => rfl
  | none => rw [e] at h; cases h
theorem is_fn (a0 : (List Int)) (b1 : (List Int)) {x : D} (h : run' a0 b1 = some x) : pre a0 b1 = true ∧ fn a0 b1 = x := by
  unfold pre fn
  rw [h]
  exact ⟨rfl, rfl⟩
theorem sound {ρ : Obs} (hE : EnvOk Go.Proofs.Try.prog ρ env) : Sound Go.Proofs.Try.prog ρ 53 sig := sound_of (fn := Go.Proofs.Try.f53) (c := code) (res := [4]) hE (by kernel_rfl) (by kernel_rfl) (by kernel_rfl) (by kernel_rfl) (by kernel_rfl) loops rfl (show 2 ≤ 27 by decide) (fun d hd => (run_is d).trans (by
  obtain ⟨a0, b1, _⟩ := d
  exact run_fn a0 b1 hd))
theorem enters : Enters Go.Proofs.Try.prog 53 := enters_of (fn := Go.Proofs.Try.f53) (by kernel_rfl) (by kernel_rfl) (by kernel_rfl)
theorem ok {ρ : Obs} (h : ∀ p ∈ ([] : List (FuncId × Sig)), Enters Go.Proofs.Try.prog p.1 ∧ Sound Go.Proofs.Try.prog ρ p.1 p.2) : Enters Go.Proofs.Try.prog 53 ∧ Sound Go.Proofs.Try.prog ρ 53 sig := ⟨enters, sound (envOk_of tabOk h)⟩
end SameInts
/-! pith/pithref.Ints -/
namespace Ints
abbrev ps : List PM := [.val (.list I64)]
abbrev rs : List PM := [.val (.list I64)]
noncomputable abbrev code : Code := (Go.Proofs.Try.f67.body.getD .skip)
abbrev s3 : Shape := ⟨[.v (.list I64), .un, .un, .row 0, .v I64, .un, .un, .un, .un, .un, .un, .un, .un, .un, .un, .un, .un, .un, .un, .un, .un, .un], [.row (3 : Go.TypeId) I64]⟩
abbrev x3 : List Way := [⟨(.ex 0), ⟨[(3, none)]⟩, ⟨[.un, .un, .un, .row 0, .un, .un, .un, .un, .un, .un, .un, .un, .un, .un, .un, .un, .un, .un, .un, .un, .un, .un], [.row (3 : Go.TypeId) I64]⟩⟩]
abbrev V3 : Type := ((List Int) × Int × Unit) × ((List Int) × Unit)
abbrev X3 : Type := (Unit) × ((List Int) × Unit)
noncomputable def R3 {R : Type} (l0 : (List Int)) (i4 : Int) (r0 : List Int) (k : V3 → Option R) (kx : X3 → Option R) : Option R := (if Decidable.decide (i4 < (↑(List.length l0) : Int)) = Bool.true then (if (0 : Int) ≤ i4 then (if i4 < (↑(List.length l0) : Int) then (if (List.length r0 + List.length [List.getD l0 (Int.toNat i4) (0 : Int)]) * (8 : Nat) ≤ (140737488355328 : Nat) then k ((l0, IntKind.wrap .i64 (i4 + (1 : Int)), ()), (r0 ++ [List.getD l0 (Int.toNat i4) (0 : Int)], ()))
 else none)
 else none)
 else none)
 else kx (((()), (r0, ()))))
noncomputable def rd3 : Rd (VO s3) (Xs x3) := fun v k kx => match v with
  | ((l0, i4, _), (r0, _)) => R3 l0 i4 r0 k kx
noncomputable def F3 (l0 : (List Int)) (i4 : Int) (r0 : List Int) : Option X3 := finOf rd3 ((l0, i4, ()), (r0, ()))
theorem F3_inv {l0 : (List Int)} (I : Int → List Int → Prop) (μ : Int → List Int → Nat) (Q : X3 → Prop) (h : ∀ (i4 : Int) (r0 : List Int), I i4 r0 → Led (fun (R : Type) (k : V3 → Option R) (kx : X3 → Option R) => R3 l0 i4 r0 k kx) (fun v => ∃ (i4' : Int) (r0' : List Int), v = ((l0, i4', ()), (r0', ())) ∧ I i4' r0' ∧ μ i4' r0' < μ i4 r0) Q) : ∀ (i4 : Int) (r0 : List Int), I i4 r0 → ∃ z, F3 l0 i4 r0 = some z ∧ Q z := fun i4 r0 hi => by
  refine finOf_inv (V := V3) (X := X3) (rd := rd3) (fun v => ∃ (i4' : Int) (r0' : List Int), v = ((l0, i4', ()), (r0', ())) ∧ I i4' r0') (fun v => match v with
    | ((l0, i4, _), (r0, _)) => μ i4 r0) Q (fun v hv => ?_) ((l0, i4, ()), (r0, ())) ⟨i4, r0, rfl, hi⟩
  obtain ⟨i4, r0, rfl, hi⟩ := hv
  refine led_mono (h i4 r0 hi) ?_ (fun _ q => q)
  rintro v ⟨i4', r0', rfl, h1, h2⟩
  exact ⟨⟨i4', r0', rfl, h1⟩, h2⟩
theorem F3_of (C : (List Int) → Int → List Int → Option X3) (μ : (List Int) → Int → List Int → Nat) (h : ∀ (l0 : (List Int)) (i4 : Int) (r0 : List Int) (z : X3), C l0 i4 r0 = some z → (∃ (l0' : (List Int)) (i4' : Int) (r0' : List Int), μ l0' i4' r0' < μ l0 i4 r0 ∧ C l0' i4' r0' = some z ∧ ∀ (R : Type) (k : V3 → Option R) (kx : X3 → Option R), R3 l0 i4 r0 k kx = k ((l0', i4', ()), (r0', ()))) ∨ ∀ (R : Type) (k : V3 → Option R) (kx : X3 → Option R), R3 l0 i4 r0 k kx = kx z) : ∀ (l0 : (List Int)) (i4 : Int) (r0 : List Int)  (z : X3), C l0 i4 r0 = some z → F3 l0 i4 r0 = some z := fun l0 i4 r0 z hz => finOf_of (V := V3) (X := X3) (rd := rd3) (fun v => match v with
    | ((l0, i4, _), (r0, _)) => C l0 i4 r0) (fun v => match v with
    | ((l0, i4, _), (r0, _)) => μ l0 i4 r0) (fun v z hz => by
  obtain ⟨⟨l0, i4, _⟩, ⟨r0, _⟩⟩ := v
  rcases h l0 i4 r0 z hz with ⟨l0', i4', r0', h1, h2, h3⟩ | h3
  · exact .inl ⟨((l0', i4', ()), (r0', ())), h1, h2, h3⟩
  · exact .inr h3) ((l0, i4, ()), (r0, ())) z hz
noncomputable def L3 : Lp := ⟨3, ⟨[(0, none), (3, none), (4, none)]⟩, s3, x3, fun v => match v with
  | ((l0, i4, _), (r0, _)) => F3 l0 i4 r0⟩
theorem ends3 : Ends L3 rd3 := ends_fin (fun v => by
  obtain ⟨⟨l0, i4, _⟩, ⟨r0, _⟩⟩ := v
  rfl)
noncomputable def env : Env := mkEnv tab [] 0 [] [L3]
theorem round3 : RoundIs env (sub [true, true, false, true, false, false] code) L3 rd3 := fun R v k kx => by kernel_rfl
abbrev D : Type := ((List Int) × Unit)
noncomputable def run' (l0 : (List Int)) : Option D := (if Int.toNat (↑(List.length l0) : Int) * (8 : Nat) ≤ (140737488355328 : Nat) then (match F3 (l0) ((0 : Int)) ([]) with
  | some ((_, (r0_1, _))) => some (r0_1, ())
  | none => none)
 else none)
noncomputable def run (d : Ds (List.map PM.ty ps)) : Option (Ds (muts ps ++ List.map PM.ty rs)) := match d with
  | (l0, _) => run' l0
theorem run_is : ∀ d, runF env 22 code [2] ps rs d = run d := fun d => by kernel_rfl
theorem loops : LoopsOk env code := loopsOk_of (l := [[true, true, false, true, false, false]]) (by kernel_rfl) (fun p hp => by
  simp only [List.mem_cons, List.not_mem_nil, or_false] at hp
  rcases hp with rfl
  · exact loopOk_lp (L := L3) (x := sub [true, true, false, true, false, false] code) (by kernel_rfl) (by simp [L3]) round3 ends3
  )
noncomputable def pre (l0 : (List Int)) : Bool := (run' l0).isSome
noncomputable def fn (l0 : (List Int)) : D := match run' l0 with
  | some x => x
  | none => default
noncomputable def sig : Sig := ⟨ps, rs, fun d => match d with
  | (l0, _) => pre l0, fun d => match d with
  | (l0, _) => fn l0⟩
theorem run_fn (l0 : (List Int)) (h : pre l0 = true) : run' l0 = some (fn l0) := by
  unfold pre at h
  unfold fn
  cases e : run' l0 with
  | some x => rfl
  | none => rw [e] at h; cases h
theorem is_fn (l0 : (List Int)) {x : D} (h : run' l0 = some x) : pre l0 = true ∧ fn l0 = x := by
  unfold pre fn
  rw [h]
  exact ⟨rfl, rfl⟩
theorem sound {ρ : Obs} (hE : EnvOk Go.Proofs.Try.prog ρ env) : Sound Go.Proofs.Try.prog ρ 67 sig := sound_of (fn := Go.Proofs.Try.f67) (c := code) (res := [2]) hE (by kernel_rfl) (by kernel_rfl) (by kernel_rfl) (by kernel_rfl) (by kernel_rfl) loops rfl (show 1 ≤ 22 by decide) (fun d hd => (run_is d).trans (by
  obtain ⟨l0, _⟩ := d
  exact run_fn l0 hd))
theorem enters : Enters Go.Proofs.Try.prog 67 := enters_of (fn := Go.Proofs.Try.f67) (by kernel_rfl) (by kernel_rfl) (by kernel_rfl)
theorem ok {ρ : Obs} (h : ∀ p ∈ ([] : List (FuncId × Sig)), Enters Go.Proofs.Try.prog p.1 ∧ Sound Go.Proofs.Try.prog ρ p.1 p.2) : Enters Go.Proofs.Try.prog 67 ∧ Sound Go.Proofs.Try.prog ρ 67 sig := ⟨enters, sound (envOk_of tabOk h)⟩
end Ints
/-! pith/pithlaw7.fits -/
namespace fits
abbrev ps : List PM := [.val (.list I64), .val I64]
abbrev rs : List PM := [.val .bool]
noncomputable abbrev code : Code := (Go.Proofs.Try.f72.body.getD .skip)
abbrev s2 : Shape := ⟨[.v (.list I64), .v I64, .un, .un, .un, .v I64, .un, .un, .un, .un, .un, .un, .un, .un, .un, .un, .un, .un, .un, .un, .un], []⟩
abbrev x2 : List Way := [⟨.rt, ⟨[(4, none)]⟩, ⟨[.un, .un, .un, .un, .v .bool, .un, .un, .un, .un, .un, .un, .un, .un, .un, .un, .un, .un, .un, .un, .un, .un], []⟩⟩, ⟨(.ex 0), ⟨[(0, none), (1, none)]⟩, ⟨[.v (.list I64), .v I64, .un, .un, .un, .un, .un, .un, .un, .un, .un, .un, .un, .un, .un, .un, .un, .un, .un, .un, .un], []⟩⟩]
abbrev V2 : Type := ((List Int) × Int × Int × Unit) × (Unit)
abbrev X2 : Type := ((Bool × Unit) × (Unit)) ⊕ (((List Int) × Int × Unit) × (Unit))
noncomputable def R2 {R : Type} (est0 : (List Int)) (n1 : Int) (i5 : Int) (k : V2 → Option R) (kx : X2 → Option R) : Option R := (if Decidable.decide (i5 < (↑(List.length est0) : Int)) = Bool.true then (if (0 : Int) ≤ i5 then (if i5 < (↑(List.length est0) : Int) then (if Decidable.decide (List.getD est0 (Int.toNat i5) (0 : Int) < (0 : Int)) = Bool.true then kx (Sum.inl <| ((Bool.false, ()), (())))
 else k ((est0, n1, IntKind.wrap .i64 (i5 + (1 : Int)), ()), (())))
 else none)
 else none)
 else kx (Sum.inr <| ((est0, n1, ()), (()))))
noncomputable def rd2 : Rd (VO s2) (Xs x2) := fun v k kx => match v with
  | ((est0, n1, i5, _), _) => R2 est0 n1 i5 k kx
noncomputable def F2 (est0 : (List Int)) (n1 : Int) (i5 : Int) : Option X2 := finOf rd2 ((est0, n1, i5, ()), (()))
theorem F2_inv {est0 : (List Int)} {n1 : Int} (I : Int → Prop) (μ : Int → Nat) (Q : X2 → Prop) (h : ∀ (i5 : Int), I i5 → Led (fun (R : Type) (k : V2 → Option R) (kx : X2 → Option R) => R2 est0 n1 i5 k kx) (fun v => ∃ (i5' : Int), v = ((est0, n1, i5', ()), ()) ∧ I i5' ∧ μ i5' < μ i5) Q) : ∀ (i5 : Int), I i5 → ∃ z, F2 est0 n1 i5 = some z ∧ Q z := fun i5 hi => by
  refine finOf_inv (V := V2) (X := X2) (rd := rd2) (fun v => ∃ (i5' : Int), v = ((est0, n1, i5', ()), ()) ∧ I i5') (fun v => match v with
    | ((est0, n1, i5, _), _) => μ i5) Q (fun v hv => ?_) ((est0, n1, i5, ()), ()) ⟨i5, rfl, hi⟩
  obtain ⟨i5, rfl, hi⟩ := hv
  refine led_mono (h i5 hi) ?_ (fun _ q => q)
  rintro v ⟨i5', rfl, h1, h2⟩
  exact ⟨⟨i5', rfl, h1⟩, h2⟩
theorem F2_of (C : (List Int) → Int → Int → Option X2) (μ : (List Int) → Int → Int → Nat) (h : ∀ (est0 : (List Int)) (n1 : Int) (i5 : Int) (z : X2), C est0 n1 i5 = some z → (∃ (est0' : (List Int)) (n1' : Int) (i5' : Int), μ est0' n1' i5' < μ est0 n1 i5 ∧ C est0' n1' i5' = some z ∧ ∀ (R : Type) (k : V2 → Option R) (kx : X2 → Option R), R2 est0 n1 i5 k kx = k ((est0', n1', i5', ()), (()))) ∨ ∀ (R : Type) (k : V2 → Option R) (kx : X2 → Option R), R2 est0 n1 i5 k kx = kx z) : ∀ (est0 : (List Int)) (n1 : Int) (i5 : Int)  (z : X2), C est0 n1 i5 = some z → F2 est0 n1 i5 = some z := fun est0 n1 i5 z hz => finOf_of (V := V2) (X := X2) (rd := rd2) (fun v => match v with
    | ((est0, n1, i5, _), _) => C est0 n1 i5) (fun v => match v with
    | ((est0, n1, i5, _), _) => μ est0 n1 i5) (fun v z hz => by
  obtain ⟨⟨est0, n1, i5, _⟩, ⟨_⟩⟩ := v
  rcases h est0 n1 i5 z hz with ⟨est0', n1', i5', h1, h2, h3⟩ | h3
  · exact .inl ⟨((est0', n1', i5', ()), (())), h1, h2, h3⟩
  · exact .inr h3) ((est0, n1, i5, ()), (())) z hz
noncomputable def L2 : Lp := ⟨2, ⟨[(0, none), (1, none), (5, none)]⟩, s2, x2, fun v => match v with
  | ((est0, n1, i5, _), _) => F2 est0 n1 i5⟩
theorem ends2 : Ends L2 rd2 := ends_fin (fun v => by
  obtain ⟨⟨est0, n1, i5, _⟩, ⟨_⟩⟩ := v
  rfl)
noncomputable def env : Env := mkEnv tab [] 0 [] [L2]
theorem round2 : RoundIs env (sub [true, false, true, false, false] code) L2 rd2 := fun R v k kx => by kernel_rfl
abbrev D : Type := (Bool × Unit)
noncomputable def run' (est0 : (List Int)) (n1 : Int) : Option D := (match F2 (est0) (n1) ((0 : Int)) with
  | some (Sum.inl <| ((t4_1, _), _)) => some (t4_1, ())
  | some (Sum.inr <| ((est0_2, n1_2, _), _)) => some ((↑(List.length est0_2) : Int) == n1_2, ())
  | none => none)
noncomputable def run (d : Ds (List.map PM.ty ps)) : Option (Ds (muts ps ++ List.map PM.ty rs)) := match d with
  | (est0, n1, _) => run' est0 n1
theorem run_is : ∀ d, runF env 21 code [4] ps rs d = run d := fun d => by kernel_rfl
theorem loops : LoopsOk env code := loopsOk_of (l := [[true, false, true, false, false]]) (by kernel_rfl) (fun p hp => by
  simp only [List.mem_cons, List.not_mem_nil, or_false] at hp
  rcases hp with rfl
  · exact loopOk_lp (L := L2) (x := sub [true, false, true, false, false] code) (by kernel_rfl) (by simp [L2]) round2 ends2
  )
noncomputable def pre (est0 : (List Int)) (n1 : Int) : Bool := (run' est0 n1).isSome
noncomputable def fn (est0 : (List Int)) (n1 : Int) : D := match run' est0 n1 with
  | some x => x
  | none => default
noncomputable def sig : Sig := ⟨ps, rs, fun d => match d with
  | (est0, n1, _) => pre est0 n1, fun d => match d with
  | (est0, n1, _) => fn est0 n1⟩
theorem run_fn (est0 : (List Int)) (n1 : Int) (h : pre est0 n1 = true) : run' est0 n1 = some (fn est0 n1) := by
  unfold pre at h
  unfold fn
  cases e : run' est0 n1 with
  | some x => rfl
  | none => rw [e] at h; cases h
theorem is_fn (est0 : (List Int)) (n1 : Int) {x : D} (h : run' est0 n1 = some x) : pre est0 n1 = true ∧ fn est0 n1 = x := by
  unfold pre fn
  rw [h]
  exact ⟨rfl, rfl⟩
theorem sound {ρ : Obs} (hE : EnvOk Go.Proofs.Try.prog ρ env) : Sound Go.Proofs.Try.prog ρ 72 sig := sound_of (fn := Go.Proofs.Try.f72) (c := code) (res := [4]) hE (by kernel_rfl) (by kernel_rfl) (by kernel_rfl) (by kernel_rfl) (by kernel_rfl) loops rfl (show 2 ≤ 21 by decide) (fun d hd => (run_is d).trans (by
  obtain ⟨est0, n1, _⟩ := d
  exact run_fn est0 n1 hd))
theorem enters : Enters Go.Proofs.Try.prog 72 := enters_of (fn := Go.Proofs.Try.f72) (by kernel_rfl) (by kernel_rfl) (by kernel_rfl)
theorem ok {ρ : Obs} (h : ∀ p ∈ ([] : List (FuncId × Sig)), Enters Go.Proofs.Try.prog p.1 ∧ Sound Go.Proofs.Try.prog ρ p.1 p.2) : Enters Go.Proofs.Try.prog 72 ∧ Sound Go.Proofs.Try.prog ρ 72 sig := ⟨enters, sound (envOk_of tabOk h)⟩
end fits
/-! pith/pithlaw7.est0 -/
namespace est0
abbrev ps : List PM := [.val (.list I64)]
abbrev rs : List PM := [.val (.list I64)]
noncomputable abbrev code : Code := (Go.Proofs.Try.f73.body.getD .skip)
noncomputable def env : Env := mkEnv tab [] 0 [] []
abbrev D : Type := ((List Int) × Unit)
noncomputable def run' (l0 : (List Int)) : Option D := (if (0 : Int) ≤ IntKind.wrap .i64 ((↑(List.length l0) : Int) - (1 : Int)) then (if IntKind.wrap .i64 ((↑(List.length l0) : Int) - (1 : Int)) ≤ (↑(List.length l0) : Int) then some (List.take (Int.toNat (IntKind.wrap .i64 ((↑(List.length l0) : Int) - (1 : Int)))) l0, ())
 else none)
 else none)
noncomputable def run (d : Ds (List.map PM.ty ps)) : Option (Ds (muts ps ++ List.map PM.ty rs)) := match d with
  | (l0, _) => run' l0
theorem run_is : ∀ d, runF env 8 code [2] ps rs d = run d := fun d => by kernel_rfl
theorem loops : LoopsOk env code := loopsOk_of (l := []) (by kernel_rfl) (fun p hp => by
  cases hp)
noncomputable def pre (l0 : (List Int)) : Bool := (run' l0).isSome
noncomputable def fn (l0 : (List Int)) : D := match run' l0 with
  | some x => x
  | none => default
noncomputable def sig : Sig := ⟨ps, rs, fun d => match d with
  | (l0, _) => pre l0, fun d => match d with
  | (l0, _) => fn l0⟩
theorem run_fn (l0 : (List Int)) (h : pre l0 = true) : run' l0 = some (fn l0) := by
  unfold pre at h
  unfold fn
  cases e : run' l0 with
  | some x => rfl
  | none => rw [e] at h; cases h
theorem is_fn (l0 : (List Int)) {x : D} (h : run' l0 = some x) : pre l0 = true ∧ fn l0 = x := by
  unfold pre fn
  rw [h]
  exact ⟨rfl, rfl⟩
theorem sound {ρ : Obs} (hE : EnvOk Go.Proofs.Try.prog ρ env) : Sound Go.Proofs.Try.prog ρ 73 sig := sound_of (fn := Go.Proofs.Try.f73) (c := code) (res := [2]) hE (by kernel_rfl) (by kernel_rfl) (by kernel_rfl) (by kernel_rfl) (by kernel_rfl) loops rfl (show 1 ≤ 8 by decide) (fun d hd => (run_is d).trans (by
  obtain ⟨l0, _⟩ := d
  exact run_fn l0 hd))
theorem enters : Enters Go.Proofs.Try.prog 73 := enters_of (fn := Go.Proofs.Try.f73) (by kernel_rfl) (by kernel_rfl) (by kernel_rfl)
theorem ok {ρ : Obs} (h : ∀ p ∈ ([] : List (FuncId × Sig)), Enters Go.Proofs.Try.prog p.1 ∧ Sound Go.Proofs.Try.prog ρ p.1 p.2) : Enters Go.Proofs.Try.prog 73 ∧ Sound Go.Proofs.Try.prog ρ 73 sig := ⟨enters, sound (envOk_of tabOk h)⟩
end est0
/-! pith/pithref7.Sweep -/
namespace Sweep7
abbrev ps : List PM := [.val (.list (.list I64)), .val (.list I64)]
abbrev rs : List PM := [.val (.list I64), .val I64, .val .bool]
noncomputable abbrev code : Code := (Go.Proofs.Try.f75.body.getD .skip)
abbrev s9 : Shape := ⟨[.v (.list (.list I64)), .un, .un, .un, .un, .un, .un, .row 0, .v I64, .v .bool, .v I64, .row 1, .v I64, .un, .un, .un, .un, .un, .un, .un, .un, .un, .un, .un, .un, .un, .un, .un, .un, .un, .un, .un, .un, .un, .un, .un, .un, .un, .un, .un, .un, .un, .un, .un, .un, .un, .un, .un, .un, .un, .un, .un, .un, .un, .un, .un, .un, .un, .un, .un, .un, .un, .un, .un, .un, .un, .un, .un, .un, .un, .un, .un, .un, .un, .un, .un, .un, .un, .un, .un, .un, .un, .un, .un, .un, .un, .un, .un, .un, .un, .un, .un, .un, .un, .un, .un, .un, .un, .un, .un, .un, .un, .un, .un, .un], [.row (3 : Go.TypeId) I64, .row (3 : Go.TypeId) I64]⟩
abbrev x9 : List Way := [⟨(.ex 2), ⟨[(0, none), (7, none), (8, none), (9, none), (10, none), (11, some (.inl ((3 : Go.TypeId), I64)))]⟩, ⟨[.v (.list (.list I64)), .un, .un, .un, .un, .un, .un, .row 0, .v I64, .v .bool, .v I64, .row 1, .un, .un, .un, .un, .un, .un, .un, .un, .un, .un, .un, .un, .un, .un, .un, .un, .un, .un, .un, .un, .un, .un, .un, .un, .un, .un, .un, .un, .un, .un, .un, .un, .un, .un, .un, .un, .un, .un, .un, .un, .un, .un, .un, .un, .un, .un, .un, .un, .un, .un, .un, .un, .un, .un, .un, .un, .un, .un, .un, .un, .un, .un, .un, .un, .un, .un, .un, .un, .un, .un, .un, .un, .un, .un, .un, .un, .un, .un, .un, .un, .un, .un, .un, .un, .un, .un, .un, .un, .un, .un, .un, .un, .un], [.row (3 : Go.TypeId) I64, .row (3 : Go.TypeId) I64]⟩⟩]
abbrev V9 : Type := ((List (List Int)) × Int × Bool × Int × Int × Unit) × ((List Int) × (List Int) × Unit)
abbrev X9 : Type := ((List (List Int)) × Int × Bool × Int × Unit) × ((List Int) × (List Int) × Unit)
noncomputable def R9 {R : Type} (to0 : (List (List Int))) (falls8 : Int) (past9 : Bool) (v10 : Int) (i12 : Int) (r0 : List Int) (r1 : List Int) (k : V9 → Option R) (kx : X9 → Option R) : Option R := (if (0 : Int) ≤ v10 then (if v10 < (↑(List.length to0) : Int) then (if Decidable.decide (i12 < (↑(List.length (List.getD to0 (Int.toNat v10) [])) : Int)) = Bool.true then (if (0 : Int) ≤ v10 then (if v10 < (↑(List.length to0) : Int) then (if (0 : Int) ≤ i12 then (if i12 < (↑(List.length (List.getD to0 (Int.toNat v10) [])) : Int) then (if (0 : Int) ≤ List.getD (List.getD to0 (Int.toNat v10) []) (Int.toNat i12) (0 : Int) then (if List.getD (List.getD to0 (Int.toNat v10) []) (Int.toNat i12) (0 : Int) < (↑(List.length r0) : Int) then (if (List.length r1 + List.length [List.getD r0 (Int.toNat (List.getD (List.getD to0 (Int.toNat v10) []) (Int.toNat i12) (0 : Int))) (0 : Int)]) * (8 : Nat) ≤ (140737488355328 : Nat) then k ((to0, falls8, past9, v10, IntKind.wrap .i64 (i12 + (1 : Int)), ()), (r0, r1 ++ [List.getD r0 (Int.toNat (List.getD (List.getD to0 (Int.toNat v10) []) (Int.toNat i12) (0 : Int))) (0 : Int)], ()))
 else none)
 else none)
 else none)
 else none)
 else none)
 else none)
 else none)
 else kx (((to0, falls8, past9, v10, ()), (r0, r1, ()))))
 else none)
 else none)
noncomputable def rd9 : Rd (VO s9) (Xs x9) := fun v k kx => match v with
  | ((to0, falls8, past9, v10, i12, _), (r0, r1, _)) => R9 to0 falls8 past9 v10 i12 r0 r1 k kx
noncomputable def F9 (to0 : (List (List Int))) (falls8 : Int) (past9 : Bool) (v10 : Int) (i12 : Int) (r0 : List Int) (r1 : List Int) : Option X9 := finOf rd9 ((to0, falls8, past9, v10, i12, ()), (r0, r1, ()))
theorem F9_inv {to0 : (List (List Int))} {falls8 : Int} {past9 : Bool} {v10 : Int} {r0 : List Int} (I : Int → List Int → Prop) (μ : Int → List Int → Nat) (Q : X9 → Prop) (h : ∀ (i12 : Int) (r1 : List Int), I i12 r1 → Led (fun (R : Type) (k : V9 → Option R) (kx : X9 → Option R) => R9 to0 falls8 past9 v10 i12 r0 r1 k kx) (fun v => ∃ (i12' : Int) (r1' : List Int), v = ((to0, falls8, past9, v10, i12', ()), (r0, r1', ())) ∧ I i12' r1' ∧ μ i12' r1' < μ i12 r1) Q) : ∀ (i12 : Int) (r1 : List Int), I i12 r1 → ∃ z, F9 to0 falls8 past9 v10 i12 r0 r1 = some z ∧ Q z := fun i12 r1 hi => by
  refine finOf_inv (V := V9) (X := X9) (rd := rd9) (fun v => ∃ (i12' : Int) (r1' : List Int), v = ((to0, falls8, past9, v10, i12', ()), (r0, r1', ())) ∧ I i12' r1') (fun v => match v with
    | ((to0, falls8, past9, v10, i12, _), (r0, r1, _)) => μ i12 r1) Q (fun v hv => ?_) ((to0, falls8, past9, v10, i12, ()), (r0, r1, ())) ⟨i12, r1, rfl, hi⟩
  obtain ⟨i12, r1, rfl, hi⟩ := hv
  refine led_mono (h i12 r1 hi) ?_ (fun _ q => q)
  rintro v ⟨i12', r1', rfl, h1, h2⟩
  exact ⟨⟨i12', r1', rfl, h1⟩, h2⟩
theorem F9_of (C : (List (List Int)) → Int → Bool → Int → Int → List Int → List Int → Option X9) (μ : (List (List Int)) → Int → Bool → Int → Int → List Int → List Int → Nat) (h : ∀ (to0 : (List (List Int))) (falls8 : Int) (past9 : Bool) (v10 : Int) (i12 : Int) (r0 : List Int) (r1 : List Int) (z : X9), C to0 falls8 past9 v10 i12 r0 r1 = some z → (∃ (to0' : (List (List Int))) (falls8' : Int) (past9' : Bool) (v10' : Int) (i12' : Int) (r0' : List Int) (r1' : List Int), μ to0' falls8' past9' v10' i12' r0' r1' < μ to0 falls8 past9 v10 i12 r0 r1 ∧ C to0' falls8' past9' v10' i12' r0' r1' = some z ∧ ∀ (R : Type) (k : V9 → Option R) (kx : X9 → Option R), R9 to0 falls8 past9 v10 i12 r0 r1 k kx = k ((to0', falls8', past9', v10', i12', ()), (r0', r1', ()))) ∨ ∀ (R : Type) (k : V9 → Option R) (kx : X9 → Option R), R9 to0 falls8 past9 v10 i12 r0 r1 k kx = kx z) : ∀ (to0 : (List (List Int))) (falls8 : Int) (past9 : Bool) (v10 : Int) (i12 : Int) (r0 : List Int) (r1 : List Int)  (z : X9), C to0 falls8 past9 v10 i12 r0 r1 = some z → F9 to0 falls8 past9 v10 i12 r0 r1 = some z := fun to0 falls8 past9 v10 i12 r0 r1 z hz => finOf_of (V := V9) (X := X9) (rd := rd9) (fun v => match v with
    | ((to0, falls8, past9, v10, i12, _), (r0, r1, _)) => C to0 falls8 past9 v10 i12 r0 r1) (fun v => match v with
    | ((to0, falls8, past9, v10, i12, _), (r0, r1, _)) => μ to0 falls8 past9 v10 i12 r0 r1) (fun v z hz => by
  obtain ⟨⟨to0, falls8, past9, v10, i12, _⟩, ⟨r0, r1, _⟩⟩ := v
  rcases h to0 falls8 past9 v10 i12 r0 r1 z hz with ⟨to0', falls8', past9', v10', i12', r0', r1', h1, h2, h3⟩ | h3
  · exact .inl ⟨((to0', falls8', past9', v10', i12', ()), (r0', r1', ())), h1, h2, h3⟩
  · exact .inr h3) ((to0, falls8, past9, v10, i12, ()), (r0, r1, ())) z hz
noncomputable def L9 : Lp := ⟨9, ⟨[(0, none), (7, none), (8, none), (9, none), (10, none), (11, some (.inl ((3 : Go.TypeId), I64))), (12, none)]⟩, s9, x9, fun v => match v with
  | ((to0, falls8, past9, v10, i12, _), (r0, r1, _)) => F9 to0 falls8 past9 v10 i12 r0 r1⟩
theorem ends9 : Ends L9 rd9 := ends_fin (fun v => by
  obtain ⟨⟨to0, falls8, past9, v10, i12, _⟩, ⟨r0, r1, _⟩⟩ := v
  rfl)
abbrev s18 : Shape := ⟨[.v (.list (.list I64)), .un, .un, .un, .un, .un, .un, .row 0, .v I64, .v .bool, .v I64, .un, .un, .v I64, .v I64, .v I64, .un, .un, .un, .un, .un, .un, .un, .un, .un, .un, .un, .un, .un, .un, .un, .un, .un, .un, .un, .un, .un, .un, .un, .un, .un, .un, .un, .un, .un, .un, .un, .un, .un, .un, .un, .un, .un, .un, .un, .un, .un, .un, .un, .un, .un, .un, .un, .un, .un, .un, .un, .un, .un, .un, .un, .un, .un, .un, .un, .un, .un, .un, .un, .un, .un, .un, .un, .un, .un, .un, .un, .un, .un, .un, .un, .un, .un, .un, .un, .un, .un, .un, .un, .un, .un, .un, .un, .un, .un], [.row (3 : Go.TypeId) I64]⟩
abbrev x18 : List Way := [⟨(.ex 4), ⟨[(0, none), (7, none), (8, none), (9, none), (10, none)]⟩, ⟨[.v (.list (.list I64)), .un, .un, .un, .un, .un, .un, .row 0, .v I64, .v .bool, .v I64, .un, .un, .un, .un, .un, .un, .un, .un, .un, .un, .un, .un, .un, .un, .un, .un, .un, .un, .un, .un, .un, .un, .un, .un, .un, .un, .un, .un, .un, .un, .un, .un, .un, .un, .un, .un, .un, .un, .un, .un, .un, .un, .un, .un, .un, .un, .un, .un, .un, .un, .un, .un, .un, .un, .un, .un, .un, .un, .un, .un, .un, .un, .un, .un, .un, .un, .un, .un, .un, .un, .un, .un, .un, .un, .un, .un, .un, .un, .un, .un, .un, .un, .un, .un, .un, .un, .un, .un, .un, .un, .un, .un, .un, .un], [.row (3 : Go.TypeId) I64]⟩⟩]
abbrev V18 : Type := ((List (List Int)) × Int × Bool × Int × Int × Int × Int × Unit) × ((List Int) × Unit)
abbrev X18 : Type := ((List (List Int)) × Int × Bool × Int × Unit) × ((List Int) × Unit)
noncomputable def R18 {R : Type} (to0 : (List (List Int))) (falls8 : Int) (past9 : Bool) (v10 : Int) (h13 : Int) (old14 : Int) (i15 : Int) (r0 : List Int) (k : V18 → Option R) (kx : X18 → Option R) : Option R := (if (0 : Int) ≤ v10 then (if v10 < (↑(List.length to0) : Int) then (if Decidable.decide (i15 < (↑(List.length (List.getD to0 (Int.toNat v10) [])) : Int)) = Bool.true then (if (0 : Int) ≤ v10 then (if v10 < (↑(List.length to0) : Int) then (if (0 : Int) ≤ i15 then (if i15 < (↑(List.length (List.getD to0 (Int.toNat v10) [])) : Int) then (if Decidable.decide (List.getD (List.getD to0 (Int.toNat v10) []) (Int.toNat i15) (0 : Int) < v10) = Bool.true then (if (0 : Int) ≤ List.getD (List.getD to0 (Int.toNat v10) []) (Int.toNat i15) (0 : Int) then (if List.getD (List.getD to0 (Int.toNat v10) []) (Int.toNat i15) (0 : Int) < (↑(List.length r0) : Int) then (if Decidable.decide (List.getD r0 (Int.toNat (List.getD (List.getD to0 (Int.toNat v10) []) (Int.toNat i15) (0 : Int))) (0 : Int) > h13) = Bool.true then (if (0 : Int) ≤ List.getD (List.getD to0 (Int.toNat v10) []) (Int.toNat i15) (0 : Int) then (if List.getD (List.getD to0 (Int.toNat v10) []) (Int.toNat i15) (0 : Int) < (↑(List.length r0) : Int) then (if Decidable.decide (List.getD r0 (Int.toNat (List.getD (List.getD to0 (Int.toNat v10) []) (Int.toNat i15) (0 : Int))) (0 : Int) ≤ old14) = Bool.true then k ((to0, falls8, Bool.true, v10, h13, old14, IntKind.wrap .i64 (i15 + (1 : Int)), ()), (r0, ()))
 else k ((to0, falls8, past9, v10, h13, old14, IntKind.wrap .i64 (i15 + (1 : Int)), ()), (r0, ())))
 else none)
 else none)
 else k ((to0, falls8, past9, v10, h13, old14, IntKind.wrap .i64 (i15 + (1 : Int)), ()), (r0, ())))
 else none)
 else none)
 else k ((to0, falls8, past9, v10, h13, old14, IntKind.wrap .i64 (i15 + (1 : Int)), ()), (r0, ())))
 else none)
 else none)
 else none)
 else none)
 else kx (((to0, falls8, past9, v10, ()), (r0, ()))))
 else none)
 else none)
noncomputable def rd18 : Rd (VO s18) (Xs x18) := fun v k kx => match v with
  | ((to0, falls8, past9, v10, h13, old14, i15, _), (r0, _)) => R18 to0 falls8 past9 v10 h13 old14 i15 r0 k kx
noncomputable def F18 (to0 : (List (List Int))) (falls8 : Int) (past9 : Bool) (v10 : Int) (h13 : Int) (old14 : Int) (i15 : Int) (r0 : List Int) : Option X18 := finOf rd18 ((to0, falls8, past9, v10, h13, old14, i15, ()), (r0, ()))
theorem F18_inv {to0 : (List (List Int))} {falls8 : Int} {v10 : Int} {h13 : Int} {old14 : Int} {r0 : List Int} (I : Bool → Int → Prop) (μ : Bool → Int → Nat) (Q : X18 → Prop) (h : ∀ (past9 : Bool) (i15 : Int), I past9 i15 → Led (fun (R : Type) (k : V18 → Option R) (kx : X18 → Option R) => R18 to0 falls8 past9 v10 h13 old14 i15 r0 k kx) (fun v => ∃ (past9' : Bool) (i15' : Int), v = ((to0, falls8, past9', v10, h13, old14, i15', ()), (r0, ())) ∧ I past9' i15' ∧ μ past9' i15' < μ past9 i15) Q) : ∀ (past9 : Bool) (i15 : Int), I past9 i15 → ∃ z, F18 to0 falls8 past9 v10 h13 old14 i15 r0 = some z ∧ Q z := fun past9 i15 hi => by
  refine finOf_inv (V := V18) (X := X18) (rd := rd18) (fun v => ∃ (past9' : Bool) (i15' : Int), v = ((to0, falls8, past9', v10, h13, old14, i15', ()), (r0, ())) ∧ I past9' i15') (fun v => match v with
    | ((to0, falls8, past9, v10, h13, old14, i15, _), (r0, _)) => μ past9 i15) Q (fun v hv => ?_) ((to0, falls8, past9, v10, h13, old14, i15, ()), (r0, ())) ⟨past9, i15, rfl, hi⟩
  obtain ⟨past9, i15, rfl, hi⟩ := hv
  refine led_mono (h past9 i15 hi) ?_ (fun _ q => q)
  rintro v ⟨past9', i15', rfl, h1, h2⟩
  exact ⟨⟨past9', i15', rfl, h1⟩, h2⟩
theorem F18_of (C : (List (List Int)) → Int → Bool → Int → Int → Int → Int → List Int → Option X18) (μ : (List (List Int)) → Int → Bool → Int → Int → Int → Int → List Int → Nat) (h : ∀ (to0 : (List (List Int))) (falls8 : Int) (past9 : Bool) (v10 : Int) (h13 : Int) (old14 : Int) (i15 : Int) (r0 : List Int) (z : X18), C to0 falls8 past9 v10 h13 old14 i15 r0 = some z → (∃ (to0' : (List (List Int))) (falls8' : Int) (past9' : Bool) (v10' : Int) (h13' : Int) (old14' : Int) (i15' : Int) (r0' : List Int), μ to0' falls8' past9' v10' h13' old14' i15' r0' < μ to0 falls8 past9 v10 h13 old14 i15 r0 ∧ C to0' falls8' past9' v10' h13' old14' i15' r0' = some z ∧ ∀ (R : Type) (k : V18 → Option R) (kx : X18 → Option R), R18 to0 falls8 past9 v10 h13 old14 i15 r0 k kx = k ((to0', falls8', past9', v10', h13', old14', i15', ()), (r0', ()))) ∨ ∀ (R : Type) (k : V18 → Option R) (kx : X18 → Option R), R18 to0 falls8 past9 v10 h13 old14 i15 r0 k kx = kx z) : ∀ (to0 : (List (List Int))) (falls8 : Int) (past9 : Bool) (v10 : Int) (h13 : Int) (old14 : Int) (i15 : Int) (r0 : List Int)  (z : X18), C to0 falls8 past9 v10 h13 old14 i15 r0 = some z → F18 to0 falls8 past9 v10 h13 old14 i15 r0 = some z := fun to0 falls8 past9 v10 h13 old14 i15 r0 z hz => finOf_of (V := V18) (X := X18) (rd := rd18) (fun v => match v with
    | ((to0, falls8, past9, v10, h13, old14, i15, _), (r0, _)) => C to0 falls8 past9 v10 h13 old14 i15 r0) (fun v => match v with
    | ((to0, falls8, past9, v10, h13, old14, i15, _), (r0, _)) => μ to0 falls8 past9 v10 h13 old14 i15 r0) (fun v z hz => by
  obtain ⟨⟨to0, falls8, past9, v10, h13, old14, i15, _⟩, ⟨r0, _⟩⟩ := v
  rcases h to0 falls8 past9 v10 h13 old14 i15 r0 z hz with ⟨to0', falls8', past9', v10', h13', old14', i15', r0', h1, h2, h3⟩ | h3
  · exact .inl ⟨((to0', falls8', past9', v10', h13', old14', i15', ()), (r0', ())), h1, h2, h3⟩
  · exact .inr h3) ((to0, falls8, past9, v10, h13, old14, i15, ()), (r0, ())) z hz
noncomputable def L18 : Lp := ⟨18, ⟨[(0, none), (7, none), (8, none), (9, none), (10, none), (13, none), (14, none), (15, none)]⟩, s18, x18, fun v => match v with
  | ((to0, falls8, past9, v10, h13, old14, i15, _), (r0, _)) => F18 to0 falls8 past9 v10 h13 old14 i15 r0⟩
theorem ends18 : Ends L18 rd18 := ends_fin (fun v => by
  obtain ⟨⟨to0, falls8, past9, v10, h13, old14, i15, _⟩, ⟨r0, _⟩⟩ := v
  rfl)
abbrev s5 : Shape := ⟨[.v (.list (.list I64)), .un, .un, .un, .un, .un, .un, .row 0, .v I64, .v .bool, .v I64, .un, .un, .un, .un, .un, .un, .un, .un, .un, .un, .un, .un, .un, .un, .un, .un, .un, .un, .un, .un, .un, .un, .un, .un, .un, .un, .un, .un, .un, .un, .un, .un, .un, .un, .un, .un, .un, .un, .un, .un, .un, .un, .un, .un, .un, .un, .un, .un, .un, .un, .un, .un, .un, .un, .un, .un, .un, .un, .un, .un, .un, .un, .un, .un, .un, .un, .un, .un, .un, .un, .un, .un, .un, .un, .un, .un, .un, .un, .un, .un, .un, .un, .un, .un, .un, .un, .un, .un, .un, .un, .un, .un, .un, .un], [.row (3 : Go.TypeId) I64]⟩
abbrev x5 : List Way := [⟨(.ex 0), ⟨[(7, none), (8, none), (9, none)]⟩, ⟨[.un, .un, .un, .un, .un, .un, .un, .row 0, .v I64, .v .bool, .un, .un, .un, .un, .un, .un, .un, .un, .un, .un, .un, .un, .un, .un, .un, .un, .un, .un, .un, .un, .un, .un, .un, .un, .un, .un, .un, .un, .un, .un, .un, .un, .un, .un, .un, .un, .un, .un, .un, .un, .un, .un, .un, .un, .un, .un, .un, .un, .un, .un, .un, .un, .un, .un, .un, .un, .un, .un, .un, .un, .un, .un, .un, .un, .un, .un, .un, .un, .un, .un, .un, .un, .un, .un, .un, .un, .un, .un, .un, .un, .un, .un, .un, .un, .un, .un, .un, .un, .un, .un, .un, .un, .un, .un, .un], [.row (3 : Go.TypeId) I64]⟩⟩]
abbrev V5 : Type := ((List (List Int)) × Int × Bool × Int × Unit) × ((List Int) × Unit)
abbrev X5 : Type := (Int × Bool × Unit) × ((List Int) × Unit)
noncomputable def R5 {R : Type} (to0 : (List (List Int))) (falls8 : Int) (past9 : Bool) (v10 : Int) (r0 : List Int) (k : V5 → Option R) (kx : X5 → Option R) : Option R := (if Decidable.decide (v10 < (↑(List.length to0) : Int)) = Bool.true then (match F9 (to0) (falls8) (past9) (v10) ((0 : Int)) (r0) ([]) with
  | some (((to0_1, falls8_1, past9_1, v10_1, _), (r0_1, r1_1, _))) => (if (0 : Int) ≤ v10_1 then (if v10_1 < (↑(List.length r0_1) : Int) then (if H7.pre r1_1 (List.getD r0_1 (Int.toNat v10_1) (0 : Int)) = Bool.true then (if (0 : Int) ≤ v10_1 then (if v10_1 < (↑(List.length r0_1) : Int) then (if Decidable.decide ((H7.fn r1_1 (List.getD r0_1 (Int.toNat v10_1) (0 : Int))).1 ≥ List.getD r0_1 (Int.toNat v10_1) (0 : Int)) = Bool.true then k ((to0_1, falls8_1, past9_1, IntKind.wrap .i64 (v10_1 + (1 : Int)), ()), (r0_1, ()))
 else (if (0 : Int) ≤ v10_1 then (if v10_1 < (↑(List.length r0_1) : Int) then (if Int.toNat v10_1 < List.length r0_1 then (match F18 (to0_1) (IntKind.wrap .i64 (falls8_1 + (1 : Int))) (past9_1) (v10_1) ((H7.fn r1_1 (List.getD r0_1 (Int.toNat v10_1) (0 : Int))).1) (List.getD r0_1 (Int.toNat v10_1) (0 : Int)) ((0 : Int)) (List.set r0_1 (Int.toNat v10_1) (H7.fn r1_1 (List.getD r0_1 (Int.toNat v10_1) (0 : Int))).1) with
  | some (((to0_2, falls8_2, past9_2, v10_2, _), (r0_2, _))) => k ((to0_2, falls8_2, past9_2, IntKind.wrap .i64 (v10_2 + (1 : Int)), ()), (r0_2, ()))
  | none => none)
 else none)
 else none)
 else none))
 else none)
 else none)
 else none)
 else none)
 else none)
  | none => none)
 else kx (((falls8, past9, ()), (r0, ()))))
noncomputable def rd5 : Rd (VO s5) (Xs x5) := fun v k kx => match v with
  | ((to0, falls8, past9, v10, _), (r0, _)) => R5 to0 falls8 past9 v10 r0 k kx
noncomputable def F5 (to0 : (List (List Int))) (falls8 : Int) (past9 : Bool) (v10 : Int) (r0 : List Int) : Option X5 := finOf rd5 ((to0, falls8, past9, v10, ()), (r0, ()))
theorem F5_inv {to0 : (List (List Int))} (I : Int → Bool → Int → List Int → Prop) (μ : Int → Bool → Int → List Int → Nat) (Q : X5 → Prop) (h : ∀ (falls8 : Int) (past9 : Bool) (v10 : Int) (r0 : List Int), I falls8 past9 v10 r0 → Led (fun (R : Type) (k : V5 → Option R) (kx : X5 → Option R) => R5 to0 falls8 past9 v10 r0 k kx) (fun v => ∃ (falls8' : Int) (past9' : Bool) (v10' : Int) (r0' : List Int), v = ((to0, falls8', past9', v10', ()), (r0', ())) ∧ I falls8' past9' v10' r0' ∧ μ falls8' past9' v10' r0' < μ falls8 past9 v10 r0) Q) : ∀ (falls8 : Int) (past9 : Bool) (v10 : Int) (r0 : List Int), I falls8 past9 v10 r0 → ∃ z, F5 to0 falls8 past9 v10 r0 = some z ∧ Q z := fun falls8 past9 v10 r0 hi => by
  refine finOf_inv (V := V5) (X := X5) (rd := rd5) (fun v => ∃ (falls8' : Int) (past9' : Bool) (v10' : Int) (r0' : List Int), v = ((to0, falls8', past9', v10', ()), (r0', ())) ∧ I falls8' past9' v10' r0') (fun v => match v with
    | ((to0, falls8, past9, v10, _), (r0, _)) => μ falls8 past9 v10 r0) Q (fun v hv => ?_) ((to0, falls8, past9, v10, ()), (r0, ())) ⟨falls8, past9, v10, r0, rfl, hi⟩
  obtain ⟨falls8, past9, v10, r0, rfl, hi⟩ := hv
  refine led_mono (h falls8 past9 v10 r0 hi) ?_ (fun _ q => q)
  rintro v ⟨falls8', past9', v10', r0', rfl, h1, h2⟩
  exact ⟨⟨falls8', past9', v10', r0', rfl, h1⟩, h2⟩
theorem F5_of (C : (List (List Int)) → Int → Bool → Int → List Int → Option X5) (μ : (List (List Int)) → Int → Bool → Int → List Int → Nat) (h : ∀ (to0 : (List (List Int))) (falls8 : Int) (past9 : Bool) (v10 : Int) (r0 : List Int) (z : X5), C to0 falls8 past9 v10 r0 = some z → (∃ (to0' : (List (List Int))) (falls8' : Int) (past9' : Bool) (v10' : Int) (r0' : List Int), μ to0' falls8' past9' v10' r0' < μ to0 falls8 past9 v10 r0 ∧ C to0' falls8' past9' v10' r0' = some z ∧ ∀ (R : Type) (k : V5 → Option R) (kx : X5 → Option R), R5 to0 falls8 past9 v10 r0 k kx = k ((to0', falls8', past9', v10', ()), (r0', ()))) ∨ ∀ (R : Type) (k : V5 → Option R) (kx : X5 → Option R), R5 to0 falls8 past9 v10 r0 k kx = kx z) : ∀ (to0 : (List (List Int))) (falls8 : Int) (past9 : Bool) (v10 : Int) (r0 : List Int)  (z : X5), C to0 falls8 past9 v10 r0 = some z → F5 to0 falls8 past9 v10 r0 = some z := fun to0 falls8 past9 v10 r0 z hz => finOf_of (V := V5) (X := X5) (rd := rd5) (fun v => match v with
    | ((to0, falls8, past9, v10, _), (r0, _)) => C to0 falls8 past9 v10 r0) (fun v => match v with
    | ((to0, falls8, past9, v10, _), (r0, _)) => μ to0 falls8 past9 v10 r0) (fun v z hz => by
  obtain ⟨⟨to0, falls8, past9, v10, _⟩, ⟨r0, _⟩⟩ := v
  rcases h to0 falls8 past9 v10 r0 z hz with ⟨to0', falls8', past9', v10', r0', h1, h2, h3⟩ | h3
  · exact .inl ⟨((to0', falls8', past9', v10', ()), (r0', ())), h1, h2, h3⟩
  · exact .inr h3) ((to0, falls8, past9, v10, ()), (r0, ())) z hz
noncomputable def L5 : Lp := ⟨5, ⟨[(0, none), (7, none), (8, none), (9, none), (10, none)]⟩, s5, x5, fun v => match v with
  | ((to0, falls8, past9, v10, _), (r0, _)) => F5 to0 falls8 past9 v10 r0⟩
theorem ends5 : Ends L5 rd5 := ends_fin (fun v => by
  obtain ⟨⟨to0, falls8, past9, v10, _⟩, ⟨r0, _⟩⟩ := v
  rfl)
noncomputable def env : Env := mkEnv tab [(69, H7.sig)] 0 [] [L9, L18, L5]
theorem round9 : RoundIs env (sub [true, true, true, true, false, true, false, false, true, false, false, true, false, true, false, false] code) L9 rd9 := fun R v k kx => by kernel_rfl
theorem round18 : RoundIs env (sub [true, true, true, true, false, true, false, false, true, false, false, true, true, true, true, true, true, true, true, false, false] code) L18 rd18 := fun R v k kx => by kernel_rfl
theorem round5 : RoundIs env (sub [true, true, true, true, false, true, false, false] code) L5 rd5 := fun R v k kx => by kernel_rfl
abbrev D : Type := ((List Int) × Int × Bool × Unit)
noncomputable def run' (to0 : (List (List Int))) (est1 : (List Int)) : Option D := (if ((0 : Nat) + List.length est1) * (8 : Nat) ≤ (140737488355328 : Nat) then (match F5 (to0) ((0 : Int)) (Bool.false) ((0 : Int)) ([] ++ est1) with
  | some (((falls8_3, past9_3, _), (r0_3, _))) => some (r0_3, falls8_3, past9_3, ())
  | none => none)
 else none)
noncomputable def run (d : Ds (List.map PM.ty ps)) : Option (Ds (muts ps ++ List.map PM.ty rs)) := match d with
  | (to0, est1, _) => run' to0 est1
theorem run_is : ∀ d, runF env 105 code [4, 5, 6] ps rs d = run d := fun d => by kernel_rfl
theorem loops : LoopsOk env code := loopsOk_of (l := [[true, true, true, true, false, true, false, false], [true, true, true, true, false, true, false, false, true, false, false, true, false, true, false, false], [true, true, true, true, false, true, false, false, true, false, false, true, true, true, true, true, true, true, true, false, false]]) (by kernel_rfl) (fun p hp => by
  simp only [List.mem_cons, List.not_mem_nil, or_false] at hp
  rcases hp with rfl | rfl | rfl
  · exact loopOk_lp (L := L5) (x := sub [true, true, true, true, false, true, false, false] code) (by kernel_rfl) (by simp [L5]) round5 ends5
  · exact loopOk_lp (L := L9) (x := sub [true, true, true, true, false, true, false, false, true, false, false, true, false, true, false, false] code) (by kernel_rfl) (by simp [L9]) round9 ends9
  · exact loopOk_lp (L := L18) (x := sub [true, true, true, true, false, true, false, false, true, false, false, true, true, true, true, true, true, true, true, false, false] code) (by kernel_rfl) (by simp [L18]) round18 ends18
  )
noncomputable def pre (to0 : (List (List Int))) (est1 : (List Int)) : Bool := (run' to0 est1).isSome
noncomputable def fn (to0 : (List (List Int))) (est1 : (List Int)) : D := match run' to0 est1 with
  | some x => x
  | none => default
noncomputable def sig : Sig := ⟨ps, rs, fun d => match d with
  | (to0, est1, _) => pre to0 est1, fun d => match d with
  | (to0, est1, _) => fn to0 est1⟩
theorem run_fn (to0 : (List (List Int))) (est1 : (List Int)) (h : pre to0 est1 = true) : run' to0 est1 = some (fn to0 est1) := by
  unfold pre at h
  unfold fn
  cases e : run' to0 est1 with
  | some x => rfl
  | none => rw [e] at h; cases h
theorem is_fn (to0 : (List (List Int))) (est1 : (List Int)) {x : D} (h : run' to0 est1 = some x) : pre to0 est1 = true ∧ fn to0 est1 = x := by
  unfold pre fn
  rw [h]
  exact ⟨rfl, rfl⟩
theorem sound {ρ : Obs} (hE : EnvOk Go.Proofs.Try.prog ρ env) : Sound Go.Proofs.Try.prog ρ 75 sig := sound_of (fn := Go.Proofs.Try.f75) (c := code) (res := [4, 5, 6]) hE (by kernel_rfl) (by kernel_rfl) (by kernel_rfl) (by kernel_rfl) (by kernel_rfl) loops rfl (show 2 ≤ 105 by decide) (fun d hd => (run_is d).trans (by
  obtain ⟨to0, est1, _⟩ := d
  exact run_fn to0 est1 hd))
theorem enters : Enters Go.Proofs.Try.prog 75 := enters_of (fn := Go.Proofs.Try.f75) (by kernel_rfl) (by kernel_rfl) (by kernel_rfl)
theorem ok {ρ : Obs} (h : ∀ p ∈ ([(69, H7.sig)] : List (FuncId × Sig)), Enters Go.Proofs.Try.prog p.1 ∧ Sound Go.Proofs.Try.prog ρ p.1 p.2) : Enters Go.Proofs.Try.prog 75 ∧ Sound Go.Proofs.Try.prog ρ 75 sig := ⟨enters, sound (envOk_of tabOk h)⟩
end Sweep7
/-! pith/pithref7.Run -/
namespace Run7
abbrev ps : List PM := [.val (.list (.list I64)), .val (.list I64)]
abbrev rs : List PM := [.val (.list I64), .val (.list I64)]
noncomputable abbrev code : Code := (Go.Proofs.Try.f77.body.getD .skip)
abbrev s4 : Shape := ⟨[.v (.list (.list I64)), .un, .un, .un, .un, .un, .row 0, .v .bool, .v I64, .un, .un, .un, .un, .un, .un, .un, .un, .un, .un, .un, .un, .un, .un, .un, .un, .un, .un, .un, .un, .un, .un, .un, .un, .un, .un, .un, .un, .un, .un, .un, .un, .un, .un, .un, .un, .un, .un, .un, .un, .un, .un, .un, .un, .un, .un, .un, .un, .un, .un, .un, .un, .un, .un, .un, .un], [.row (3 : Go.TypeId) I64]⟩
abbrev x4 : List Way := [⟨(.ex 0), ⟨[(0, none), (6, none), (7, none)]⟩, ⟨[.v (.list (.list I64)), .un, .un, .un, .un, .un, .row 0, .v .bool, .un, .un, .un, .un, .un, .un, .un, .un, .un, .un, .un, .un, .un, .un, .un, .un, .un, .un, .un, .un, .un, .un, .un, .un, .un, .un, .un, .un, .un, .un, .un, .un, .un, .un, .un, .un, .un, .un, .un, .un, .un, .un, .un, .un, .un, .un, .un, .un, .un, .un, .un, .un, .un, .un, .un, .un, .un], [.row (3 : Go.TypeId) I64]⟩⟩]
abbrev V4 : Type := ((List (List Int)) × Bool × Int × Unit) × ((List Int) × Unit)
abbrev X4 : Type := ((List (List Int)) × Bool × Unit) × ((List Int) × Unit)
noncomputable def R4 {R : Type} (to0 : (List (List Int))) (again7 : Bool) (v8 : Int) (r0 : List Int) (k : V4 → Option R) (kx : X4 → Option R) : Option R := (if Decidable.decide (v8 < (↑(List.length to0) : Int)) = Bool.true then (if (0 : Int) ≤ v8 then (if v8 < (↑(List.length r0) : Int) then (if (0 : Int) ≤ v8 then (if v8 < (↑(List.length to0) : Int) then (if Decidable.decide (List.getD r0 (Int.toNat v8) (0 : Int) > (↑(List.length (List.getD to0 (Int.toNat v8) [])) : Int)) = Bool.true then (if (0 : Int) ≤ v8 then (if v8 < (↑(List.length to0) : Int) then (if (0 : Int) ≤ v8 then (if v8 < (↑(List.length r0) : Int) then (if Int.toNat v8 < List.length r0 then (if again7 = Bool.false then (if (0 : Int) ≤ v8 then (if v8 < (↑(List.length to0) : Int) then k ((to0, Decidable.decide ((↑(List.length (List.getD to0 (Int.toNat v8) [])) : Int) > (0 : Int)), IntKind.wrap .i64 (v8 + (1 : Int)), ()), (List.set r0 (Int.toNat v8) (↑(List.length (List.getD to0 (Int.toNat v8) [])) : Int), ()))
 else none)
 else none)
 else k ((to0, Bool.true, IntKind.wrap .i64 (v8 + (1 : Int)), ()), (List.set r0 (Int.toNat v8) (↑(List.length (List.getD to0 (Int.toNat v8) [])) : Int), ())))
 else none)
 else none)
 else none)
 else none)
 else none)
 else (if again7 = Bool.false then (if (0 : Int) ≤ v8 then (if v8 < (↑(List.length to0) : Int) then k ((to0, Decidable.decide ((↑(List.length (List.getD to0 (Int.toNat v8) [])) : Int) > (0 : Int)), IntKind.wrap .i64 (v8 + (1 : Int)), ()), (r0, ()))
 else none)
 else none)
 else k ((to0, Bool.true, IntKind.wrap .i64 (v8 + (1 : Int)), ()), (r0, ()))))
 else none)
 else none)
 else none)
 else none)
 else kx (((to0, again7, ()), (r0, ()))))
noncomputable def rd4 : Rd (VO s4) (Xs x4) := fun v k kx => match v with
  | ((to0, again7, v8, _), (r0, _)) => R4 to0 again7 v8 r0 k kx
noncomputable def F4 (to0 : (List (List Int))) (again7 : Bool) (v8 : Int) (r0 : List Int) : Option X4 := finOf rd4 ((to0, again7, v8, ()), (r0, ()))
theorem F4_inv {to0 : (List (List Int))} (I : Bool → Int → List Int → Prop) (μ : Bool → Int → List Int → Nat) (Q : X4 → Prop) (h : ∀ (again7 : Bool) (v8 : Int) (r0 : List Int), I again7 v8 r0 → Led (fun (R : Type) (k : V4 → Option R) (kx : X4 → Option R) => R4 to0 again7 v8 r0 k kx) (fun v => ∃ (again7' : Bool) (v8' : Int) (r0' : List Int), v = ((to0, again7', v8', ()), (r0', ())) ∧ I again7' v8' r0' ∧ μ again7' v8' r0' < μ again7 v8 r0) Q) : ∀ (again7 : Bool) (v8 : Int) (r0 : List Int), I again7 v8 r0 → ∃ z, F4 to0 again7 v8 r0 = some z ∧ Q z := fun again7 v8 r0 hi => by
  refine finOf_inv (V := V4) (X := X4) (rd := rd4) (fun v => ∃ (again7' : Bool) (v8' : Int) (r0' : List Int), v = ((to0, again7', v8', ()), (r0', ())) ∧ I again7' v8' r0') (fun v => match v with
    | ((to0, again7, v8, _), (r0, _)) => μ again7 v8 r0) Q (fun v hv => ?_) ((to0, again7, v8, ()), (r0, ())) ⟨again7, v8, r0, rfl, hi⟩
  obtain ⟨again7, v8, r0, rfl, hi⟩ := hv
  refine led_mono (h again7 v8 r0 hi) ?_ (fun _ q => q)
  rintro v ⟨again7', v8', r0', rfl, h1, h2⟩
  exact ⟨⟨again7', v8', r0', rfl, h1⟩, h2⟩
theorem F4_of (C : (List (List Int)) → Bool → Int → List Int → Option X4) (μ : (List (List Int)) → Bool → Int → List Int → Nat) (h : ∀ (to0 : (List (List Int))) (again7 : Bool) (v8 : Int) (r0 : List Int) (z : X4), C to0 again7 v8 r0 = some z → (∃ (to0' : (List (List Int))) (again7' : Bool) (v8' : Int) (r0' : List Int), μ to0' again7' v8' r0' < μ to0 again7 v8 r0 ∧ C to0' again7' v8' r0' = some z ∧ ∀ (R : Type) (k : V4 → Option R) (kx : X4 → Option R), R4 to0 again7 v8 r0 k kx = k ((to0', again7', v8', ()), (r0', ()))) ∨ ∀ (R : Type) (k : V4 → Option R) (kx : X4 → Option R), R4 to0 again7 v8 r0 k kx = kx z) : ∀ (to0 : (List (List Int))) (again7 : Bool) (v8 : Int) (r0 : List Int)  (z : X4), C to0 again7 v8 r0 = some z → F4 to0 again7 v8 r0 = some z := fun to0 again7 v8 r0 z hz => finOf_of (V := V4) (X := X4) (rd := rd4) (fun v => match v with
    | ((to0, again7, v8, _), (r0, _)) => C to0 again7 v8 r0) (fun v => match v with
    | ((to0, again7, v8, _), (r0, _)) => μ to0 again7 v8 r0) (fun v z hz => by
  obtain ⟨⟨to0, again7, v8, _⟩, ⟨r0, _⟩⟩ := v
  rcases h to0 again7 v8 r0 z hz with ⟨to0', again7', v8', r0', h1, h2, h3⟩ | h3
  · exact .inl ⟨((to0', again7', v8', ()), (r0', ())), h1, h2, h3⟩
  · exact .inr h3) ((to0, again7, v8, ()), (r0, ())) z hz
noncomputable def L4 : Lp := ⟨4, ⟨[(0, none), (6, none), (7, none), (8, none)]⟩, s4, x4, fun v => match v with
  | ((to0, again7, v8, _), (r0, _)) => F4 to0 again7 v8 r0⟩
theorem ends4 : Ends L4 rd4 := ends_fin (fun v => by
  obtain ⟨⟨to0, again7, v8, _⟩, ⟨r0, _⟩⟩ := v
  rfl)
abbrev s10 : Shape := ⟨[.v (.list (.list I64)), .un, .un, .un, .un, .un, .v (.list I64), .v .bool, .un, .row 0, .un, .un, .un, .un, .un, .un, .un, .un, .un, .un, .un, .un, .un, .un, .un, .un, .un, .un, .un, .un, .un, .un, .un, .un, .un, .un, .un, .un, .un, .un, .un, .un, .un, .un, .un, .un, .un, .un, .un, .un, .un, .un, .un, .un, .un, .un, .un, .un, .un, .un, .un, .un, .un, .un, .un], [.row (3 : Go.TypeId) I64]⟩
abbrev x10 : List Way := [⟨(.ex 2), ⟨[(6, some (.inr I64)), (9, some (.inl ((3 : Go.TypeId), I64)))]⟩, ⟨[.un, .un, .un, .un, .un, .un, .v (.list I64), .un, .un, .row 0, .un, .un, .un, .un, .un, .un, .un, .un, .un, .un, .un, .un, .un, .un, .un, .un, .un, .un, .un, .un, .un, .un, .un, .un, .un, .un, .un, .un, .un, .un, .un, .un, .un, .un, .un, .un, .un, .un, .un, .un, .un, .un, .un, .un, .un, .un, .un, .un, .un, .un, .un, .un, .un, .un, .un], [.row (3 : Go.TypeId) I64]⟩⟩]
abbrev V10 : Type := ((List (List Int)) × (List Int) × Bool × Unit) × ((List Int) × Unit)
abbrev X10 : Type := ((List Int) × Unit) × ((List Int) × Unit)
noncomputable def R10 {R : Type} (to0 : (List (List Int))) (r6 : (List Int)) (again7 : Bool) (r0 : List Int) (k : V10 → Option R) (kx : X10 → Option R) : Option R := (if again7 = Bool.true then (if Sweep7.pre to0 r6 = Bool.true then (if (List.length r0 + List.length [(Sweep7.fn to0 r6).2.1]) * (8 : Nat) ≤ (140737488355328 : Nat) then k ((to0, (Sweep7.fn to0 r6).1, (Sweep7.fn to0 r6).2.2.1, ()), (r0 ++ [(Sweep7.fn to0 r6).2.1], ()))
 else none)
 else none)
 else kx (((r6, ()), (r0, ()))))
noncomputable def rd10 : Rd (VO s10) (Xs x10) := fun v k kx => match v with
  | ((to0, r6, again7, _), (r0, _)) => R10 to0 r6 again7 r0 k kx
noncomputable def F10 (to0 : (List (List Int))) (r6 : (List Int)) (again7 : Bool) (r0 : List Int) : Option X10 := finOf rd10 ((to0, r6, again7, ()), (r0, ()))
theorem F10_inv {to0 : (List (List Int))} (I : (List Int) → Bool → List Int → Prop) (μ : (List Int) → Bool → List Int → Nat) (Q : X10 → Prop) (h : ∀ (r6 : (List Int)) (again7 : Bool) (r0 : List Int), I r6 again7 r0 → Led (fun (R : Type) (k : V10 → Option R) (kx : X10 → Option R) => R10 to0 r6 again7 r0 k kx) (fun v => ∃ (r6' : (List Int)) (again7' : Bool) (r0' : List Int), v = ((to0, r6', again7', ()), (r0', ())) ∧ I r6' again7' r0' ∧ μ r6' again7' r0' < μ r6 again7 r0) Q) : ∀ (r6 : (List Int)) (again7 : Bool) (r0 : List Int), I r6 again7 r0 → ∃ z, F10 to0 r6 again7 r0 = some z ∧ Q z := fun r6 again7 r0 hi => by
  refine finOf_inv (V := V10) (X := X10) (rd := rd10) (fun v => ∃ (r6' : (List Int)) (again7' : Bool) (r0' : List Int), v = ((to0, r6', again7', ()), (r0', ())) ∧ I r6' again7' r0') (fun v => match v with
    | ((to0, r6, again7, _), (r0, _)) => μ r6 again7 r0) Q (fun v hv => ?_) ((to0, r6, again7, ()), (r0, ())) ⟨r6, again7, r0, rfl, hi⟩
  obtain ⟨r6, again7, r0, rfl, hi⟩ := hv
  refine led_mono (h r6 again7 r0 hi) ?_ (fun _ q => q)
  rintro v ⟨r6', again7', r0', rfl, h1, h2⟩
  exact ⟨⟨r6', again7', r0', rfl, h1⟩, h2⟩
theorem F10_of (C : (List (List Int)) → (List Int) → Bool → List Int → Option X10) (μ : (List (List Int)) → (List Int) → Bool → List Int → Nat) (h : ∀ (to0 : (List (List Int))) (r6 : (List Int)) (again7 : Bool) (r0 : List Int) (z : X10), C to0 r6 again7 r0 = some z → (∃ (to0' : (List (List Int))) (r6' : (List Int)) (again7' : Bool) (r0' : List Int), μ to0' r6' again7' r0' < μ to0 r6 again7 r0 ∧ C to0' r6' again7' r0' = some z ∧ ∀ (R : Type) (k : V10 → Option R) (kx : X10 → Option R), R10 to0 r6 again7 r0 k kx = k ((to0', r6', again7', ()), (r0', ()))) ∨ ∀ (R : Type) (k : V10 → Option R) (kx : X10 → Option R), R10 to0 r6 again7 r0 k kx = kx z) : ∀ (to0 : (List (List Int))) (r6 : (List Int)) (again7 : Bool) (r0 : List Int)  (z : X10), C to0 r6 again7 r0 = some z → F10 to0 r6 again7 r0 = some z := fun to0 r6 again7 r0 z hz => finOf_of (V := V10) (X := X10) (rd := rd10) (fun v => match v with
    | ((to0, r6, again7, _), (r0, _)) => C to0 r6 again7 r0) (fun v => match v with
    | ((to0, r6, again7, _), (r0, _)) => μ to0 r6 again7 r0) (fun v z hz => by
  obtain ⟨⟨to0, r6, again7, _⟩, ⟨r0, _⟩⟩ := v
  rcases h to0 r6 again7 r0 z hz with ⟨to0', r6', again7', r0', h1, h2, h3⟩ | h3
  · exact .inl ⟨((to0', r6', again7', ()), (r0', ())), h1, h2, h3⟩
  · exact .inr h3) ((to0, r6, again7, ()), (r0, ())) z hz
noncomputable def L10 : Lp := ⟨10, ⟨[(0, none), (6, some (.inr I64)), (7, none), (9, some (.inl ((3 : Go.TypeId), I64)))]⟩, s10, x10, fun v => match v with
  | ((to0, r6, again7, _), (r0, _)) => F10 to0 r6 again7 r0⟩
theorem ends10 : Ends L10 rd10 := ends_fin (fun v => by
  obtain ⟨⟨to0, r6, again7, _⟩, ⟨r0, _⟩⟩ := v
  rfl)
noncomputable def env : Env := mkEnv tab [(75, Sweep7.sig)] 0 [(6, [0, 1, 2, 3, 4, 5, 6, 7, 8, 9])] [L4, L10]
theorem round4 : RoundIs env (sub [true, true, true, false, true, false, false] code) L4 rd4 := fun R v k kx => by kernel_rfl
theorem round10 : RoundIs env (sub [true, true, true, true, true, false, false, false] code) L10 rd10 := fun R v k kx => by kernel_rfl
abbrev D : Type := ((List Int) × (List Int) × Unit)
noncomputable def run' (to0 : (List (List Int))) (est1 : (List Int)) : Option D := (if ((0 : Nat) + List.length est1) * (8 : Nat) ≤ (140737488355328 : Nat) then (match F4 (to0) (Bool.false) ((0 : Int)) ([] ++ est1) with
  | some (((to0_1, again7_1, _), (r0_1, _))) => (match F10 (to0_1) (r0_1) (again7_1) ([]) with
  | some (((r6_2, _), (r0_2, _))) => some (r6_2, r0_2, ())
  | none => none)
  | none => none)
 else none)
noncomputable def run (d : Ds (List.map PM.ty ps)) : Option (Ds (muts ps ++ List.map PM.ty rs)) := match d with
  | (to0, est1, _) => run' to0 est1
theorem run_is : ∀ d, runF env 65 code [4, 5] ps rs d = run d := fun d => by kernel_rfl
theorem loops : LoopsOk env code := loopsOk_of (l := [[true, true, true, false, true, false, false], [true, true, true, true, true, false, false, false]]) (by kernel_rfl) (fun p hp => by
  simp only [List.mem_cons, List.not_mem_nil, or_false] at hp
  rcases hp with rfl | rfl
  · exact loopOk_lp (L := L4) (x := sub [true, true, true, false, true, false, false] code) (by kernel_rfl) (by simp [L4]) round4 ends4
  · exact loopOk_lp (L := L10) (x := sub [true, true, true, true, true, false, false, false] code) (by kernel_rfl) (by simp [L10]) round10 ends10
  )
noncomputable def pre (to0 : (List (List Int))) (est1 : (List Int)) : Bool := (run' to0 est1).isSome
noncomputable def fn (to0 : (List (List Int))) (est1 : (List Int)) : D := match run' to0 est1 with
  | some x => x
  | none => default
noncomputable def sig : Sig := ⟨ps, rs, fun d => match d with
  | (to0, est1, _) => pre to0 est1, fun d => match d with
  | (to0, est1, _) => fn to0 est1⟩
theorem run_fn (to0 : (List (List Int))) (est1 : (List Int)) (h : pre to0 est1 = true) : run' to0 est1 = some (fn to0 est1) := by
  unfold pre at h
  unfold fn
  cases e : run' to0 est1 with
  | some x => rfl
  | none => rw [e] at h; cases h
theorem is_fn (to0 : (List (List Int))) (est1 : (List Int)) {x : D} (h : run' to0 est1 = some x) : pre to0 est1 = true ∧ fn to0 est1 = x := by
  unfold pre fn
  rw [h]
  exact ⟨rfl, rfl⟩
theorem sound {ρ : Obs} (hE : EnvOk Go.Proofs.Try.prog ρ env) : Sound Go.Proofs.Try.prog ρ 77 sig := sound_of (fn := Go.Proofs.Try.f77) (c := code) (res := [4, 5]) hE (by kernel_rfl) (by kernel_rfl) (by kernel_rfl) (by kernel_rfl) (by kernel_rfl) loops rfl (show 2 ≤ 65 by decide) (fun d hd => (run_is d).trans (by
  obtain ⟨to0, est1, _⟩ := d
  exact run_fn to0 est1 hd))
theorem enters : Enters Go.Proofs.Try.prog 77 := enters_of (fn := Go.Proofs.Try.f77) (by kernel_rfl) (by kernel_rfl) (by kernel_rfl)
theorem ok {ρ : Obs} (h : ∀ p ∈ ([(75, Sweep7.sig)] : List (FuncId × Sig)), Enters Go.Proofs.Try.prog p.1 ∧ Sound Go.Proofs.Try.prog ρ p.1 p.2) : Enters Go.Proofs.Try.prog 77 ∧ Sound Go.Proofs.Try.prog ρ 77 sig := ⟨enters, sound (envOk_of tabOk h)⟩
end Run7
/-! pith/pithref7.Cores -/
namespace Cores7
abbrev ps : List PM := [.val (.list (.list I64))]
abbrev rs : List PM := [.val (.list I64)]
noncomputable abbrev code : Code := (Go.Proofs.Try.f78.body.getD .skip)
abbrev s5 : Shape := ⟨[.v (.list (.list I64)), .un, .un, .row 0, .row 1, .v .bool, .v I64, .un, .un, .un, .un, .un, .un, .un, .un, .un, .un, .un, .un, .un, .un, .un, .un, .un, .un, .un, .un, .un, .un, .un, .un, .un, .un, .un, .un, .un, .un, .un, .un, .un, .un, .un, .un, .un, .un, .un, .un, .un, .un, .un, .un, .un, .un, .un, .un, .un, .un, .un, .un, .un, .un, .un, .un, .un, .un, .un, .un, .un, .un, .un, .un], [.row (3 : Go.TypeId) I64, .row (4 : Go.TypeId) .bool]⟩
abbrev x5 : List Way := [⟨(.ex 0), ⟨[(0, none), (3, none), (4, none), (5, none)]⟩, ⟨[.v (.list (.list I64)), .un, .un, .row 0, .row 1, .v .bool, .un, .un, .un, .un, .un, .un, .un, .un, .un, .un, .un, .un, .un, .un, .un, .un, .un, .un, .un, .un, .un, .un, .un, .un, .un, .un, .un, .un, .un, .un, .un, .un, .un, .un, .un, .un, .un, .un, .un, .un, .un, .un, .un, .un, .un, .un, .un, .un, .un, .un, .un, .un, .un, .un, .un, .un, .un, .un, .un, .un, .un, .un, .un, .un, .un], [.row (3 : Go.TypeId) I64, .row (4 : Go.TypeId) .bool]⟩⟩]
abbrev V5 : Type := ((List (List Int)) × Bool × Int × Unit) × ((List Int) × (List Bool) × Unit)
abbrev X5 : Type := ((List (List Int)) × Bool × Unit) × ((List Int) × (List Bool) × Unit)
noncomputable def R5 {R : Type} (to0 : (List (List Int))) (some5 : Bool) (v6 : Int) (r0 : List Int) (r1 : List Bool) (k : V5 → Option R) (kx : X5 → Option R) : Option R := (if Decidable.decide (v6 < (↑(List.length to0) : Int)) = Bool.true then (if (0 : Int) ≤ v6 then (if v6 < (↑(List.length r1) : Int) then (if Int.toNat v6 < List.length r1 then k ((to0, some5, IntKind.wrap .i64 (v6 + (1 : Int)), ()), (r0, List.set r1 (Int.toNat v6) Bool.true, ()))
 else none)
 else none)
 else none)
 else kx (((to0, some5, ()), (r0, r1, ()))))
noncomputable def rd5 : Rd (VO s5) (Xs x5) := fun v k kx => match v with
  | ((to0, some5, v6, _), (r0, r1, _)) => R5 to0 some5 v6 r0 r1 k kx
noncomputable def F5 (to0 : (List (List Int))) (some5 : Bool) (v6 : Int) (r0 : List Int) (r1 : List Bool) : Option X5 := finOf rd5 ((to0, some5, v6, ()), (r0, r1, ()))
theorem F5_inv {to0 : (List (List Int))} {some5 : Bool} {r0 : List Int} (I : Int → List Bool → Prop) (μ : Int → List Bool → Nat) (Q : X5 → Prop) (h : ∀ (v6 : Int) (r1 : List Bool), I v6 r1 → Led (fun (R : Type) (k : V5 → Option R) (kx : X5 → Option R) => R5 to0 some5 v6 r0 r1 k kx) (fun v => ∃ (v6' : Int) (r1' : List Bool), v = ((to0, some5, v6', ()), (r0, r1', ())) ∧ I v6' r1' ∧ μ v6' r1' < μ v6 r1) Q) : ∀ (v6 : Int) (r1 : List Bool), I v6 r1 → ∃ z, F5 to0 some5 v6 r0 r1 = some z ∧ Q z := fun v6 r1 hi => by
  refine finOf_inv (V := V5) (X := X5) (rd := rd5) (fun v => ∃ (v6' : Int) (r1' : List Bool), v = ((to0, some5, v6', ()), (r0, r1', ())) ∧ I v6' r1') (fun v => match v with
    | ((to0, some5, v6, _), (r0, r1, _)) => μ v6 r1) Q (fun v hv => ?_) ((to0, some5, v6, ()), (r0, r1, ())) ⟨v6, r1, rfl, hi⟩
  obtain ⟨v6, r1, rfl, hi⟩ := hv
  refine led_mono (h v6 r1 hi) ?_ (fun _ q => q)
  rintro v ⟨v6', r1', rfl, h1, h2⟩
  exact ⟨⟨v6', r1', rfl, h1⟩, h2⟩
theorem F5_of (C : (List (List Int)) → Bool → Int → List Int → List Bool → Option X5) (μ : (List (List Int)) → Bool → Int → List Int → List Bool → Nat) (h : ∀ (to0 : (List (List Int))) (some5 : Bool) (v6 : Int) (r0 : List Int) (r1 : List Bool) (z : X5), C to0 some5 v6 r0 r1 = some z → (∃ (to0' : (List (List Int))) (some5' : Bool) (v6' : Int) (r0' : List Int) (r1' : List Bool), μ to0' some5' v6' r0' r1' < μ to0 some5 v6 r0 r1 ∧ C to0' some5' v6' r0' r1' = some z ∧ ∀ (R : Type) (k : V5 → Option R) (kx : X5 → Option R), R5 to0 some5 v6 r0 r1 k kx = k ((to0', some5', v6', ()), (r0', r1', ()))) ∨ ∀ (R : Type) (k : V5 → Option R) (kx : X5 → Option R), R5 to0 some5 v6 r0 r1 k kx = kx z) : ∀ (to0 : (List (List Int))) (some5 : Bool) (v6 : Int) (r0 : List Int) (r1 : List Bool)  (z : X5), C to0 some5 v6 r0 r1 = some z → F5 to0 some5 v6 r0 r1 = some z := fun to0 some5 v6 r0 r1 z hz => finOf_of (V := V5) (X := X5) (rd := rd5) (fun v => match v with
    | ((to0, some5, v6, _), (r0, r1, _)) => C to0 some5 v6 r0 r1) (fun v => match v with
    | ((to0, some5, v6, _), (r0, r1, _)) => μ to0 some5 v6 r0 r1) (fun v z hz => by
  obtain ⟨⟨to0, some5, v6, _⟩, ⟨r0, r1, _⟩⟩ := v
  rcases h to0 some5 v6 r0 r1 z hz with ⟨to0', some5', v6', r0', r1', h1, h2, h3⟩ | h3
  · exact .inl ⟨((to0', some5', v6', ()), (r0', r1', ())), h1, h2, h3⟩
  · exact .inr h3) ((to0, some5, v6, ()), (r0, r1, ())) z hz
noncomputable def L5 : Lp := ⟨5, ⟨[(0, none), (3, none), (4, none), (5, none), (6, none)]⟩, s5, x5, fun v => match v with
  | ((to0, some5, v6, _), (r0, r1, _)) => F5 to0 some5 v6 r0 r1⟩
theorem ends5 : Ends L5 rd5 := ends_fin (fun v => by
  obtain ⟨⟨to0, some5, v6, _⟩, ⟨r0, r1, _⟩⟩ := v
  rfl)
abbrev s15 : Shape := ⟨[.v (.list (.list I64)), .un, .un, .row 0, .row 1, .un, .un, .v I64, .v .bool, .v I64, .un, .un, .un, .un, .un, .un, .un, .un, .un, .un, .un, .un, .un, .un, .un, .un, .un, .un, .un, .un, .un, .un, .un, .un, .un, .un, .un, .un, .un, .un, .un, .un, .un, .un, .un, .un, .un, .un, .un, .un, .un, .un, .un, .un, .un, .un, .un, .un, .un, .un, .un, .un, .un, .un, .un, .un, .un, .un, .un, .un, .un], [.row (3 : Go.TypeId) I64, .row (4 : Go.TypeId) .bool]⟩
abbrev x15 : List Way := [⟨(.ex 6), ⟨[(0, none), (3, none), (4, none), (7, none), (8, none)]⟩, ⟨[.v (.list (.list I64)), .un, .un, .row 0, .row 1, .un, .un, .v I64, .v .bool, .un, .un, .un, .un, .un, .un, .un, .un, .un, .un, .un, .un, .un, .un, .un, .un, .un, .un, .un, .un, .un, .un, .un, .un, .un, .un, .un, .un, .un, .un, .un, .un, .un, .un, .un, .un, .un, .un, .un, .un, .un, .un, .un, .un, .un, .un, .un, .un, .un, .un, .un, .un, .un, .un, .un, .un, .un, .un, .un, .un, .un, .un], [.row (3 : Go.TypeId) I64, .row (4 : Go.TypeId) .bool]⟩⟩]
abbrev V15 : Type := ((List (List Int)) × Int × Bool × Int × Unit) × ((List Int) × (List Bool) × Unit)
abbrev X15 : Type := ((List (List Int)) × Int × Bool × Unit) × ((List Int) × (List Bool) × Unit)
noncomputable def R15 {R : Type} (to0 : (List (List Int))) (k7 : Int) (gone8 : Bool) (v9 : Int) (r0 : List Int) (r1 : List Bool) (k : V15 → Option R) (kx : X15 → Option R) : Option R := (if Decidable.decide (v9 < (↑(List.length to0) : Int)) = Bool.true then (if (0 : Int) ≤ v9 then (if v9 < (↑(List.length r1) : Int) then (if List.getD r1 (Int.toNat v9) Bool.false = Bool.true then (if (0 : Int) ≤ v9 then (if v9 < (↑(List.length to0) : Int) then (if here.pre (List.getD to0 (Int.toNat v9) []) r1 = Bool.true then (if Decidable.decide ((here.fn (List.getD to0 (Int.toNat v9) []) r1).1 < k7) = Bool.true then (if (0 : Int) ≤ v9 then (if v9 < (↑(List.length r1) : Int) then (if Int.toNat v9 < List.length r1 then k ((to0, k7, Bool.true, IntKind.wrap .i64 (v9 + (1 : Int)), ()), (r0, List.set r1 (Int.toNat v9) Bool.false, ()))
 else none)
 else none)
 else none)
 else k ((to0, k7, gone8, IntKind.wrap .i64 (v9 + (1 : Int)), ()), (r0, r1, ())))
 else none)
 else none)
 else none)
 else k ((to0, k7, gone8, IntKind.wrap .i64 (v9 + (1 : Int)), ()), (r0, r1, ())))
 else none)
 else none)
 else kx (((to0, k7, gone8, ()), (r0, r1, ()))))
noncomputable def rd15 : Rd (VO s15) (Xs x15) := fun v k kx => match v with
  | ((to0, k7, gone8, v9, _), (r0, r1, _)) => R15 to0 k7 gone8 v9 r0 r1 k kx
noncomputable def F15 (to0 : (List (List Int))) (k7 : Int) (gone8 : Bool) (v9 : Int) (r0 : List Int) (r1 : List Bool) : Option X15 := finOf rd15 ((to0, k7, gone8, v9, ()), (r0, r1, ()))
theorem F15_inv {to0 : (List (List Int))} {k7 : Int} {r0 : List Int} (I : Bool → Int → List Bool → Prop) (μ : Bool → Int → List Bool → Nat) (Q : X15 → Prop) (h : ∀ (gone8 : Bool) (v9 : Int) (r1 : List Bool), I gone8 v9 r1 → Led (fun (R : Type) (k : V15 → Option R) (kx : X15 → Option R) => R15 to0 k7 gone8 v9 r0 r1 k kx) (fun v => ∃ (gone8' : Bool) (v9' : Int) (r1' : List Bool), v = ((to0, k7, gone8', v9', ()), (r0, r1', ())) ∧ I gone8' v9' r1' ∧ μ gone8' v9' r1' < μ gone8 v9 r1) Q) : ∀ (gone8 : Bool) (v9 : Int) (r1 : List Bool), I gone8 v9 r1 → ∃ z, F15 to0 k7 gone8 v9 r0 r1 = some z ∧ Q z := fun gone8 v9 r1 hi => by
  refine finOf_inv (V := V15) (X := X15) (rd := rd15) (fun v => ∃ (gone8' : Bool) (v9' : Int) (r1' : List Bool), v = ((to0, k7, gone8', v9', ()), (r0, r1', ())) ∧ I gone8' v9' r1') (fun v => match v with
    | ((to0, k7, gone8, v9, _), (r0, r1, _)) => μ gone8 v9 r1) Q (fun v hv => ?_) ((to0, k7, gone8, v9, ()), (r0, r1, ())) ⟨gone8, v9, r1, rfl, hi⟩
  obtain ⟨gone8, v9, r1, rfl, hi⟩ := hv
  refine led_mono (h gone8 v9 r1 hi) ?_ (fun _ q => q)
  rintro v ⟨gone8', v9', r1', rfl, h1, h2⟩
  exact ⟨⟨gone8', v9', r1', rfl, h1⟩, h2⟩
theorem F15_of (C : (List (List Int)) → Int → Bool → Int → List Int → List Bool → Option X15) (μ : (List (List Int)) → Int → Bool → Int → List Int → List Bool → Nat) (h : ∀ (to0 : (List (List Int))) (k7 : Int) (gone8 : Bool) (v9 : Int) (r0 : List Int) (r1 : List Bool) (z : X15), C to0 k7 gone8 v9 r0 r1 = some z → (∃ (to0' : (List (List Int))) (k7' : Int) (gone8' : Bool) (v9' : Int) (r0' : List Int) (r1' : List Bool), μ to0' k7' gone8' v9' r0' r1' < μ to0 k7 gone8 v9 r0 r1 ∧ C to0' k7' gone8' v9' r0' r1' = some z ∧ ∀ (R : Type) (k : V15 → Option R) (kx : X15 → Option R), R15 to0 k7 gone8 v9 r0 r1 k kx = k ((to0', k7', gone8', v9', ()), (r0', r1', ()))) ∨ ∀ (R : Type) (k : V15 → Option R) (kx : X15 → Option R), R15 to0 k7 gone8 v9 r0 r1 k kx = kx z) : ∀ (to0 : (List (List Int))) (k7 : Int) (gone8 : Bool) (v9 : Int) (r0 : List Int) (r1 : List Bool)  (z : X15), C to0 k7 gone8 v9 r0 r1 = some z → F15 to0 k7 gone8 v9 r0 r1 = some z := fun to0 k7 gone8 v9 r0 r1 z hz => finOf_of (V := V15) (X := X15) (rd := rd15) (fun v => match v with
    | ((to0, k7, gone8, v9, _), (r0, r1, _)) => C to0 k7 gone8 v9 r0 r1) (fun v => match v with
    | ((to0, k7, gone8, v9, _), (r0, r1, _)) => μ to0 k7 gone8 v9 r0 r1) (fun v z hz => by
  obtain ⟨⟨to0, k7, gone8, v9, _⟩, ⟨r0, r1, _⟩⟩ := v
  rcases h to0 k7 gone8 v9 r0 r1 z hz with ⟨to0', k7', gone8', v9', r0', r1', h1, h2, h3⟩ | h3
  · exact .inl ⟨((to0', k7', gone8', v9', ()), (r0', r1', ())), h1, h2, h3⟩
  · exact .inr h3) ((to0, k7, gone8, v9, ()), (r0, r1, ())) z hz
noncomputable def L15 : Lp := ⟨15, ⟨[(0, none), (3, none), (4, none), (7, none), (8, none), (9, none)]⟩, s15, x15, fun v => match v with
  | ((to0, k7, gone8, v9, _), (r0, r1, _)) => F15 to0 k7 gone8 v9 r0 r1⟩
theorem ends15 : Ends L15 rd15 := ends_fin (fun v => by
  obtain ⟨⟨to0, k7, gone8, v9, _⟩, ⟨r0, r1, _⟩⟩ := v
  rfl)
abbrev s12 : Shape := ⟨[.v (.list (.list I64)), .un, .un, .row 0, .row 1, .un, .un, .v I64, .v .bool, .un, .un, .un, .un, .un, .un, .un, .un, .un, .un, .un, .un, .un, .un, .un, .un, .un, .un, .un, .un, .un, .un, .un, .un, .un, .un, .un, .un, .un, .un, .un, .un, .un, .un, .un, .un, .un, .un, .un, .un, .un, .un, .un, .un, .un, .un, .un, .un, .un, .un, .un, .un, .un, .un, .un, .un, .un, .un, .un, .un, .un, .un], [.row (3 : Go.TypeId) I64, .row (4 : Go.TypeId) .bool]⟩
abbrev x12 : List Way := [⟨(.ex 4), ⟨[(0, none), (3, none), (4, none), (7, none)]⟩, ⟨[.v (.list (.list I64)), .un, .un, .row 0, .row 1, .un, .un, .v I64, .un, .un, .un, .un, .un, .un, .un, .un, .un, .un, .un, .un, .un, .un, .un, .un, .un, .un, .un, .un, .un, .un, .un, .un, .un, .un, .un, .un, .un, .un, .un, .un, .un, .un, .un, .un, .un, .un, .un, .un, .un, .un, .un, .un, .un, .un, .un, .un, .un, .un, .un, .un, .un, .un, .un, .un, .un, .un, .un, .un, .un, .un, .un], [.row (3 : Go.TypeId) I64, .row (4 : Go.TypeId) .bool]⟩⟩]
abbrev V12 : Type := ((List (List Int)) × Int × Bool × Unit) × ((List Int) × (List Bool) × Unit)
abbrev X12 : Type := ((List (List Int)) × Int × Unit) × ((List Int) × (List Bool) × Unit)
noncomputable def R12 {R : Type} (to0 : (List (List Int))) (k7 : Int) (gone8 : Bool) (r0 : List Int) (r1 : List Bool) (k : V12 → Option R) (kx : X12 → Option R) : Option R := (if gone8 = Bool.true then (match F15 (to0) (k7) (Bool.false) ((0 : Int)) (r0) (r1) with
  | some (((to0_2, k7_2, gone8_2, _), (r0_2, r1_2, _))) => k ((to0_2, k7_2, gone8_2, ()), (r0_2, r1_2, ()))
  | none => none)
 else kx (((to0, k7, ()), (r0, r1, ()))))
noncomputable def rd12 : Rd (VO s12) (Xs x12) := fun v k kx => match v with
  | ((to0, k7, gone8, _), (r0, r1, _)) => R12 to0 k7 gone8 r0 r1 k kx
noncomputable def F12 (to0 : (List (List Int))) (k7 : Int) (gone8 : Bool) (r0 : List Int) (r1 : List Bool) : Option X12 := finOf rd12 ((to0, k7, gone8, ()), (r0, r1, ()))
theorem F12_inv {to0 : (List (List Int))} {k7 : Int} {r0 : List Int} (I : Bool → List Bool → Prop) (μ : Bool → List Bool → Nat) (Q : X12 → Prop) (h : ∀ (gone8 : Bool) (r1 : List Bool), I gone8 r1 → Led (fun (R : Type) (k : V12 → Option R) (kx : X12 → Option R) => R12 to0 k7 gone8 r0 r1 k kx) (fun v => ∃ (gone8' : Bool) (r1' : List Bool), v = ((to0, k7, gone8', ()), (r0, r1', ())) ∧ I gone8' r1' ∧ μ gone8' r1' < μ gone8 r1) Q) : ∀ (gone8 : Bool) (r1 : List Bool), I gone8 r1 → ∃ z, F12 to0 k7 gone8 r0 r1 = some z ∧ Q z := fun gone8 r1 hi => by
  refine finOf_inv (V := V12) (X := X12) (rd := rd12) (fun v => ∃ (gone8' : Bool) (r1' : List Bool), v = ((to0, k7, gone8', ()), (r0, r1', ())) ∧ I gone8' r1') (fun v => match v with
    | ((to0, k7, gone8, _), (r0, r1, _)) => μ gone8 r1) Q (fun v hv => ?_) ((to0, k7, gone8, ()), (r0, r1, ())) ⟨gone8, r1, rfl, hi⟩
  obtain ⟨gone8, r1, rfl, hi⟩ := hv
  refine led_mono (h gone8 r1 hi) ?_ (fun _ q => q)
  rintro v ⟨gone8', r1', rfl, h1, h2⟩
  exact ⟨⟨gone8', r1', rfl, h1⟩, h2⟩
theorem F12_of (C : (List (List Int)) → Int → Bool → List Int → List Bool → Option X12) (μ : (List (List Int)) → Int → Bool → List Int → List Bool → Nat) (h : ∀ (to0 : (List (List Int))) (k7 : Int) (gone8 : Bool) (r0 : List Int) (r1 : List Bool) (z : X12), C to0 k7 gone8 r0 r1 = some z → (∃ (to0' : (List (List Int))) (k7' : Int) (gone8' : Bool) (r0' : List Int) (r1' : List Bool), μ to0' k7' gone8' r0' r1' < μ to0 k7 gone8 r0 r1 ∧ C to0' k7' gone8' r0' r1' = some z ∧ ∀ (R : Type) (k : V12 → Option R) (kx : X12 → Option R), R12 to0 k7 gone8 r0 r1 k kx = k ((to0', k7', gone8', ()), (r0', r1', ()))) ∨ ∀ (R : Type) (k : V12 → Option R) (kx : X12 → Option R), R12 to0 k7 gone8 r0 r1 k kx = kx z) : ∀ (to0 : (List (List Int))) (k7 : Int) (gone8 : Bool) (r0 : List Int) (r1 : List Bool)  (z : X12), C to0 k7 gone8 r0 r1 = some z → F12 to0 k7 gone8 r0 r1 = some z := fun to0 k7 gone8 r0 r1 z hz => finOf_of (V := V12) (X := X12) (rd := rd12) (fun v => match v with
    | ((to0, k7, gone8, _), (r0, r1, _)) => C to0 k7 gone8 r0 r1) (fun v => match v with
    | ((to0, k7, gone8, _), (r0, r1, _)) => μ to0 k7 gone8 r0 r1) (fun v z hz => by
  obtain ⟨⟨to0, k7, gone8, _⟩, ⟨r0, r1, _⟩⟩ := v
  rcases h to0 k7 gone8 r0 r1 z hz with ⟨to0', k7', gone8', r0', r1', h1, h2, h3⟩ | h3
  · exact .inl ⟨((to0', k7', gone8', ()), (r0', r1', ())), h1, h2, h3⟩
  · exact .inr h3) ((to0, k7, gone8, ()), (r0, r1, ())) z hz
noncomputable def L12 : Lp := ⟨12, ⟨[(0, none), (3, none), (4, none), (7, none), (8, none)]⟩, s12, x12, fun v => match v with
  | ((to0, k7, gone8, _), (r0, r1, _)) => F12 to0 k7 gone8 r0 r1⟩
theorem ends12 : Ends L12 rd12 := ends_fin (fun v => by
  obtain ⟨⟨to0, k7, gone8, _⟩, ⟨r0, r1, _⟩⟩ := v
  rfl)
abbrev s22 : Shape := ⟨[.v (.list (.list I64)), .un, .un, .row 0, .row 1, .v .bool, .un, .v I64, .un, .un, .v I64, .un, .un, .un, .un, .un, .un, .un, .un, .un, .un, .un, .un, .un, .un, .un, .un, .un, .un, .un, .un, .un, .un, .un, .un, .un, .un, .un, .un, .un, .un, .un, .un, .un, .un, .un, .un, .un, .un, .un, .un, .un, .un, .un, .un, .un, .un, .un, .un, .un, .un, .un, .un, .un, .un, .un, .un, .un, .un, .un, .un], [.row (3 : Go.TypeId) I64, .row (4 : Go.TypeId) .bool]⟩
abbrev x22 : List Way := [⟨(.ex 8), ⟨[(0, none), (3, none), (4, none), (5, none), (7, none)]⟩, ⟨[.v (.list (.list I64)), .un, .un, .row 0, .row 1, .v .bool, .un, .v I64, .un, .un, .un, .un, .un, .un, .un, .un, .un, .un, .un, .un, .un, .un, .un, .un, .un, .un, .un, .un, .un, .un, .un, .un, .un, .un, .un, .un, .un, .un, .un, .un, .un, .un, .un, .un, .un, .un, .un, .un, .un, .un, .un, .un, .un, .un, .un, .un, .un, .un, .un, .un, .un, .un, .un, .un, .un, .un, .un, .un, .un, .un, .un], [.row (3 : Go.TypeId) I64, .row (4 : Go.TypeId) .bool]⟩⟩]
abbrev V22 : Type := ((List (List Int)) × Bool × Int × Int × Unit) × ((List Int) × (List Bool) × Unit)
abbrev X22 : Type := ((List (List Int)) × Bool × Int × Unit) × ((List Int) × (List Bool) × Unit)
noncomputable def R22 {R : Type} (to0 : (List (List Int))) (some5 : Bool) (k7 : Int) (v10 : Int) (r0 : List Int) (r1 : List Bool) (k : V22 → Option R) (kx : X22 → Option R) : Option R := (if Decidable.decide (v10 < (↑(List.length to0) : Int)) = Bool.true then (if (0 : Int) ≤ v10 then (if v10 < (↑(List.length r1) : Int) then (if List.getD r1 (Int.toNat v10) Bool.false = Bool.true then (if (0 : Int) ≤ v10 then (if v10 < (↑(List.length r0) : Int) then (if Int.toNat v10 < List.length r0 then k ((to0, Bool.true, k7, IntKind.wrap .i64 (v10 + (1 : Int)), ()), (List.set r0 (Int.toNat v10) k7, r1, ()))
 else none)
 else none)
 else none)
 else k ((to0, some5, k7, IntKind.wrap .i64 (v10 + (1 : Int)), ()), (r0, r1, ())))
 else none)
 else none)
 else kx (((to0, some5, k7, ()), (r0, r1, ()))))
noncomputable def rd22 : Rd (VO s22) (Xs x22) := fun v k kx => match v with
  | ((to0, some5, k7, v10, _), (r0, r1, _)) => R22 to0 some5 k7 v10 r0 r1 k kx
noncomputable def F22 (to0 : (List (List Int))) (some5 : Bool) (k7 : Int) (v10 : Int) (r0 : List Int) (r1 : List Bool) : Option X22 := finOf rd22 ((to0, some5, k7, v10, ()), (r0, r1, ()))
theorem F22_inv {to0 : (List (List Int))} {k7 : Int} {r1 : List Bool} (I : Bool → Int → List Int → Prop) (μ : Bool → Int → List Int → Nat) (Q : X22 → Prop) (h : ∀ (some5 : Bool) (v10 : Int) (r0 : List Int), I some5 v10 r0 → Led (fun (R : Type) (k : V22 → Option R) (kx : X22 → Option R) => R22 to0 some5 k7 v10 r0 r1 k kx) (fun v => ∃ (some5' : Bool) (v10' : Int) (r0' : List Int), v = ((to0, some5', k7, v10', ()), (r0', r1, ())) ∧ I some5' v10' r0' ∧ μ some5' v10' r0' < μ some5 v10 r0) Q) : ∀ (some5 : Bool) (v10 : Int) (r0 : List Int), I some5 v10 r0 → ∃ z, F22 to0 some5 k7 v10 r0 r1 = some z ∧ Q z := fun some5 v10 r0 hi => by
  refine finOf_inv (V := V22) (X := X22) (rd := rd22) (fun v => ∃ (some5' : Bool) (v10' : Int) (r0' : List Int), v = ((to0, some5', k7, v10', ()), (r0', r1, ())) ∧ I some5' v10' r0') (fun v => match v with
    | ((to0, some5, k7, v10, _), (r0, r1, _)) => μ some5 v10 r0) Q (fun v hv => ?_) ((to0, some5, k7, v10, ()), (r0, r1, ())) ⟨some5, v10, r0, rfl, hi⟩
  obtain ⟨some5, v10, r0, rfl, hi⟩ := hv
  refine led_mono (h some5 v10 r0 hi) ?_ (fun _ q => q)
  rintro v ⟨some5', v10', r0', rfl, h1, h2⟩
  exact ⟨⟨some5', v10', r0', rfl, h1⟩, h2⟩
theorem F22_of (C : (List (List Int)) → Bool → Int → Int → List Int → List Bool → Option X22) (μ : (List (List Int)) → Bool → Int → Int → List Int → List Bool → Nat) (h : ∀ (to0 : (List (List Int))) (some5 : Bool) (k7 : Int) (v10 : Int) (r0 : List Int) (r1 : List Bool) (z : X22), C to0 some5 k7 v10 r0 r1 = some z → (∃ (to0' : (List (List Int))) (some5' : Bool) (k7' : Int) (v10' : Int) (r0' : List Int) (r1' : List Bool), μ to0' some5' k7' v10' r0' r1' < μ to0 some5 k7 v10 r0 r1 ∧ C to0' some5' k7' v10' r0' r1' = some z ∧ ∀ (R : Type) (k : V22 → Option R) (kx : X22 → Option R), R22 to0 some5 k7 v10 r0 r1 k kx = k ((to0', some5', k7', v10', ()), (r0', r1', ()))) ∨ ∀ (R : Type) (k : V22 → Option R) (kx : X22 → Option R), R22 to0 some5 k7 v10 r0 r1 k kx = kx z) : ∀ (to0 : (List (List Int))) (some5 : Bool) (k7 : Int) (v10 : Int) (r0 : List Int) (r1 : List Bool)  (z : X22), C to0 some5 k7 v10 r0 r1 = some z → F22 to0 some5 k7 v10 r0 r1 = some z := fun to0 some5 k7 v10 r0 r1 z hz => finOf_of (V := V22) (X := X22) (rd := rd22) (fun v => match v with
    | ((to0, some5, k7, v10, _), (r0, r1, _)) => C to0 some5 k7 v10 r0 r1) (fun v => match v with
    | ((to0, some5, k7, v10, _), (r0, r1, _)) => μ to0 some5 k7 v10 r0 r1) (fun v z hz => by
  obtain ⟨⟨to0, some5, k7, v10, _⟩, ⟨r0, r1, _⟩⟩ := v
  rcases h to0 some5 k7 v10 r0 r1 z hz with ⟨to0', some5', k7', v10', r0', r1', h1, h2, h3⟩ | h3
  · exact .inl ⟨((to0', some5', k7', v10', ()), (r0', r1', ())), h1, h2, h3⟩
  · exact .inr h3) ((to0, some5, k7, v10, ()), (r0, r1, ())) z hz
noncomputable def L22 : Lp := ⟨22, ⟨[(0, none), (3, none), (4, none), (5, none), (7, none), (10, none)]⟩, s22, x22, fun v => match v with
  | ((to0, some5, k7, v10, _), (r0, r1, _)) => F22 to0 some5 k7 v10 r0 r1⟩
theorem ends22 : Ends L22 rd22 := ends_fin (fun v => by
  obtain ⟨⟨to0, some5, k7, v10, _⟩, ⟨r0, r1, _⟩⟩ := v
  rfl)
abbrev s9 : Shape := ⟨[.v (.list (.list I64)), .un, .un, .row 0, .row 1, .v .bool, .un, .v I64, .un, .un, .un, .un, .un, .un, .un, .un, .un, .un, .un, .un, .un, .un, .un, .un, .un, .un, .un, .un, .un, .un, .un, .un, .un, .un, .un, .un, .un, .un, .un, .un, .un, .un, .un, .un, .un, .un, .un, .un, .un, .un, .un, .un, .un, .un, .un, .un, .un, .un, .un, .un, .un, .un, .un, .un, .un, .un, .un, .un, .un, .un, .un], [.row (3 : Go.TypeId) I64, .row (4 : Go.TypeId) .bool]⟩
abbrev x9 : List Way := [⟨(.ex 2), ⟨[(3, none)]⟩, ⟨[.un, .un, .un, .row 0, .un, .un, .un, .un, .un, .un, .un, .un, .un, .un, .un, .un, .un, .un, .un, .un, .un, .un, .un, .un, .un, .un, .un, .un, .un, .un, .un, .un, .un, .un, .un, .un, .un, .un, .un, .un, .un, .un, .un, .un, .un, .un, .un, .un, .un, .un, .un, .un, .un, .un, .un, .un, .un, .un, .un, .un, .un, .un, .un, .un, .un, .un, .un, .un, .un, .un, .un], [.row (3 : Go.TypeId) I64]⟩⟩]
abbrev V9 : Type := ((List (List Int)) × Bool × Int × Unit) × ((List Int) × (List Bool) × Unit)
abbrev X9 : Type := (Unit) × ((List Int) × Unit)
noncomputable def R9 {R : Type} (to0 : (List (List Int))) (some5 : Bool) (k7 : Int) (r0 : List Int) (r1 : List Bool) (k : V9 → Option R) (kx : X9 → Option R) : Option R := (if some5 = Bool.true then (match F12 (to0) (k7) (Bool.true) (r0) (r1) with
  | some (((to0_3, k7_3, _), (r0_3, r1_3, _))) => (match F22 (to0_3) (Bool.false) (k7_3) ((0 : Int)) (r0_3) (r1_3) with
  | some (((to0_4, some5_4, k7_4, _), (r0_4, r1_4, _))) => k ((to0_4, some5_4, IntKind.wrap .i64 (k7_4 + (1 : Int)), ()), (r0_4, r1_4, ()))
  | none => none)
  | none => none)
 else kx (((()), (r0, ()))))
noncomputable def rd9 : Rd (VO s9) (Xs x9) := fun v k kx => match v with
  | ((to0, some5, k7, _), (r0, r1, _)) => R9 to0 some5 k7 r0 r1 k kx
noncomputable def F9 (to0 : (List (List Int))) (some5 : Bool) (k7 : Int) (r0 : List Int) (r1 : List Bool) : Option X9 := finOf rd9 ((to0, some5, k7, ()), (r0, r1, ()))
theorem F9_inv {to0 : (List (List Int))} (I : Bool → Int → List Int → List Bool → Prop) (μ : Bool → Int → List Int → List Bool → Nat) (Q : X9 → Prop) (h : ∀ (some5 : Bool) (k7 : Int) (r0 : List Int) (r1 : List Bool), I some5 k7 r0 r1 → Led (fun (R : Type) (k : V9 → Option R) (kx : X9 → Option R) => R9 to0 some5 k7 r0 r1 k kx) (fun v => ∃ (some5' : Bool) (k7' : Int) (r0' : List Int) (r1' : List Bool), v = ((to0, some5', k7', ()), (r0', r1', ())) ∧ I some5' k7' r0' r1' ∧ μ some5' k7' r0' r1' < μ some5 k7 r0 r1) Q) : ∀ (some5 : Bool) (k7 : Int) (r0 : List Int) (r1 : List Bool), I some5 k7 r0 r1 → ∃ z, F9 to0 some5 k7 r0 r1 = some z ∧ Q z := fun some5 k7 r0 r1 hi => by
  refine finOf_inv (V := V9) (X := X9) (rd := rd9) (fun v => ∃ (some5' : Bool) (k7' : Int) (r0' : List Int) (r1' : List Bool), v = ((to0, some5', k7', ()), (r0', r1', ())) ∧ I some5' k7' r0' r1') (fun v => match v with
    | ((to0, some5, k7, _), (r0, r1, _)) => μ some5 k7 r0 r1) Q (fun v hv => ?_) ((to0, some5, k7, ()), (r0, r1, ())) ⟨some5, k7, r0, r1, rfl, hi⟩
  obtain ⟨some5, k7, r0, r1, rfl, hi⟩ := hv
  refine led_mono (h some5 k7 r0 r1 hi) ?_ (fun _ q => q)
  rintro v ⟨some5', k7', r0', r1', rfl, h1, h2⟩
  exact ⟨⟨some5', k7', r0', r1', rfl, h1⟩, h2⟩
theorem F9_of (C : (List (List Int)) → Bool → Int → List Int → List Bool → Option X9) (μ : (List (List Int)) → Bool → Int → List Int → List Bool → Nat) (h : ∀ (to0 : (List (List Int))) (some5 : Bool) (k7 : Int) (r0 : List Int) (r1 : List Bool) (z : X9), C to0 some5 k7 r0 r1 = some z → (∃ (to0' : (List (List Int))) (some5' : Bool) (k7' : Int) (r0' : List Int) (r1' : List Bool), μ to0' some5' k7' r0' r1' < μ to0 some5 k7 r0 r1 ∧ C to0' some5' k7' r0' r1' = some z ∧ ∀ (R : Type) (k : V9 → Option R) (kx : X9 → Option R), R9 to0 some5 k7 r0 r1 k kx = k ((to0', some5', k7', ()), (r0', r1', ()))) ∨ ∀ (R : Type) (k : V9 → Option R) (kx : X9 → Option R), R9 to0 some5 k7 r0 r1 k kx = kx z) : ∀ (to0 : (List (List Int))) (some5 : Bool) (k7 : Int) (r0 : List Int) (r1 : List Bool)  (z : X9), C to0 some5 k7 r0 r1 = some z → F9 to0 some5 k7 r0 r1 = some z := fun to0 some5 k7 r0 r1 z hz => finOf_of (V := V9) (X := X9) (rd := rd9) (fun v => match v with
    | ((to0, some5, k7, _), (r0, r1, _)) => C to0 some5 k7 r0 r1) (fun v => match v with
    | ((to0, some5, k7, _), (r0, r1, _)) => μ to0 some5 k7 r0 r1) (fun v z hz => by
  obtain ⟨⟨to0, some5, k7, _⟩, ⟨r0, r1, _⟩⟩ := v
  rcases h to0 some5 k7 r0 r1 z hz with ⟨to0', some5', k7', r0', r1', h1, h2, h3⟩ | h3
  · exact .inl ⟨((to0', some5', k7', ()), (r0', r1', ())), h1, h2, h3⟩
  · exact .inr h3) ((to0, some5, k7, ()), (r0, r1, ())) z hz
noncomputable def L9 : Lp := ⟨9, ⟨[(0, none), (3, none), (4, none), (5, none), (7, none)]⟩, s9, x9, fun v => match v with
  | ((to0, some5, k7, _), (r0, r1, _)) => F9 to0 some5 k7 r0 r1⟩
theorem ends9 : Ends L9 rd9 := ends_fin (fun v => by
  obtain ⟨⟨to0, some5, k7, _⟩, ⟨r0, r1, _⟩⟩ := v
  rfl)
noncomputable def env : Env := mkEnv tab [(131, here.sig)] 0 [] [L5, L15, L12, L22, L9]
theorem round5 : RoundIs env (sub [true, true, true, true, false, true, false, false] code) L5 rd5 := fun R v k kx => by kernel_rfl
theorem round15 : RoundIs env (sub [true, true, true, true, true, false, true, false, false, true, false, false, false, true, false, false, true, false, true, true, false, false] code) L15 rd15 := fun R v k kx => by kernel_rfl
theorem round12 : RoundIs env (sub [true, true, true, true, true, false, true, false, false, true, false, false, false, true, false, false] code) L12 rd12 := fun R v k kx => by kernel_rfl
theorem round22 : RoundIs env (sub [true, true, true, true, true, false, true, false, false, true, false, false, true, true, true, false, false] code) L22 rd22 := fun R v k kx => by kernel_rfl
theorem round9 : RoundIs env (sub [true, true, true, true, true, false, true, false, false] code) L9 rd9 := fun R v k kx => by kernel_rfl
abbrev D : Type := ((List Int) × Unit)
noncomputable def run' (to0 : (List (List Int))) : Option D := (if (↑(List.length to0) : Int) = (↑(List.length to0) : Int) then (if Int.toNat (↑(List.length to0) : Int) * (8 : Nat) ≤ (140737488355328 : Nat) then (if (↑(List.length to0) : Int) = (↑(List.length to0) : Int) then (if Int.toNat (↑(List.length to0) : Int) * (1 : Nat) ≤ (140737488355328 : Nat) then (match F5 (to0) (Decidable.decide ((↑(List.length to0) : Int) > (0 : Int))) ((0 : Int)) (List.replicate (Int.toNat (↑(List.length to0) : Int)) (0 : Int)) (List.replicate (Int.toNat (↑(List.length to0) : Int)) Bool.false) with
  | some (((to0_1, some5_1, _), (r0_1, r1_1, _))) => (match F9 (to0_1) (some5_1) ((1 : Int)) (r0_1) (r1_1) with
  | some ((_, (r0_5, _))) => some (r0_5, ())
  | none => none)
  | none => none)
 else none)
 else none)
 else none)
 else none)
noncomputable def run (d : Ds (List.map PM.ty ps)) : Option (Ds (muts ps ++ List.map PM.ty rs)) := match d with
  | (to0, _) => run' to0
theorem run_is : ∀ d, runF env 71 code [2] ps rs d = run d := fun d => by kernel_rfl
theorem loops : LoopsOk env code := loopsOk_of (l := [[true, true, true, true, false, true, false, false], [true, true, true, true, true, false, true, false, false], [true, true, true, true, true, false, true, false, false, true, false, false, false, true, false, false], [true, true, true, true, true, false, true, false, false, true, false, false, false, true, false, false, true, false, true, true, false, false], [true, true, true, true, true, false, true, false, false, true, false, false, true, true, true, false, false]]) (by kernel_rfl) (fun p hp => by
  simp only [List.mem_cons, List.not_mem_nil, or_false] at hp
  rcases hp with rfl | rfl | rfl | rfl | rfl
  · exact loopOk_lp (L := L5) (x := sub [true, true, true, true, false, true, false, false] code) (by kernel_rfl) (by simp [L5]) round5 ends5
  · exact loopOk_lp (L := L9) (x := sub [true, true, true, true, true, false, true, false, false] code) (by kernel_rfl) (by simp [L9]) round9 ends9
  · exact loopOk_lp (L := L12) (x := sub [true, true, true, true, true, false, true, false, false, true, false, false, false, true, false, false] code) (by kernel_rfl) (by simp [L12]) round12 ends12
  · exact loopOk_lp (L := L15) (x := sub [true, true, true, true, true, false, true, false, false, true, false, false, false, true, false, false, true, false, true, true, false, false] code) (by kernel_rfl) (by simp [L15]) round15 ends15
  · exact loopOk_lp (L := L22) (x := sub [true, true, true, true, true, false, true, false, false, true, false, false, true, true, true, false, false] code) (by kernel_rfl) (by simp [L22]) round22 ends22
  )
noncomputable def pre (to0 : (List (List Int))) : Bool := (run' to0).isSome
noncomputable def fn (to0 : (List (List Int))) : D := match run' to0 with
  | some x => x
  | none => default
noncomputable def sig : Sig := ⟨ps, rs, fun d => match d with
  | (to0, _) => pre to0, fun d => match d with
  | (to0, _) => fn to0⟩
theorem run_fn (to0 : (List (List Int))) (h : pre to0 = true) : run' to0 = some (fn to0) := by
  unfold pre at h
  unfold fn
  cases e : run' to0 with
  | some x => rfl
  | none => rw [e] at h; cases h
theorem is_fn (to0 : (List (List Int))) {x : D} (h : run' to0 = some x) : pre to0 = true ∧ fn to0 = x := by
  unfold pre fn
  rw [h]
  exact ⟨rfl, rfl⟩
theorem sound {ρ : Obs} (hE : EnvOk Go.Proofs.Try.prog ρ env) : Sound Go.Proofs.Try.prog ρ 78 sig := sound_of (fn := Go.Proofs.Try.f78) (c := code) (res := [2]) hE (by kernel_rfl) (by kernel_rfl) (by kernel_rfl) (by kernel_rfl) (by kernel_rfl) loops rfl (show 1 ≤ 71 by decide) (fun d hd => (run_is d).trans (by
  obtain ⟨to0, _⟩ := d
  exact run_fn to0 hd))
theorem enters : Enters Go.Proofs.Try.prog 78 := enters_of (fn := Go.Proofs.Try.f78) (by kernel_rfl) (by kernel_rfl) (by kernel_rfl)
theorem ok {ρ : Obs} (h : ∀ p ∈ ([(131, here.sig)] : List (FuncId × Sig)), Enters Go.Proofs.Try.prog p.1 ∧ Sound Go.Proofs.Try.prog ρ p.1 p.2) : Enters Go.Proofs.Try.prog 78 ∧ Sound Go.Proofs.Try.prog ρ 78 sig := ⟨enters, sound (envOk_of tabOk h)⟩
end Cores7
end Go.Proofs.Ythbojpaghbbnnaa.Z
namespace Go.Proofs.Ythbojpaghbbnnaa.Z
open Go Go.RowKit
set_option linter.unusedVariables false
set_option linter.unusedSimpArgs false
namespace here
def cnt (left : List Bool) (l : List Int) : Int := (l.countP (fun x => left.getD x.toNat false) : Nat)
def C3 (l0 : (List Int)) (left1 : (List Bool)) (n5 : Int) (i6 : Int) : Option X3 :=
  if l0.length < 2 ^ 62 ∧ 0 ≤ i6 ∧ 0 ≤ n5 ∧ n5 ≤ i6 ∧ ∀ x ∈ l0, 0 ≤ x ∧ x < (left1.length : Int) then some ((n5 + cnt left1 (l0.drop i6.toNat), ()), ()) else none
theorem F3_is : ∀ (l0 : (List Int)) (left1 : (List Bool)) (n5 : Int) (i6 : Int) (z : X3), C3 l0 left1 n5 i6 = some z → F3 l0 left1 n5 i6 = some z := by
  refine F3_of C3 (fun l _ _ i => l.length - i.toNat) (fun l left n i z h => ?_)
  simp only [C3] at h
  split at h
  · rename_i hc
    injection h with h
    obtain ⟨c1, c2, c3, c4, c5⟩ := hc
    by_cases hi : i < (l.length : Int)
    · left
      have hx := c5 _ (mem_getD 0 l i.toNat (by omega))
      have hdr := drop_getD 0 l i.toNat (by omega)
      have hi1 : (i + 1).toNat = i.toNat + 1 := by omega
      have hw : IntKind.wrap .i64 (i + 1) = i + 1 := wr (by omega) (by omega)
      have hwn : IntKind.wrap .i64 (n + 1) = n + 1 := wr (by omega) (by omega)
      by_cases hb : left.getD (l.getD i.toNat 0).toNat false = true
      · refine ⟨l, left, n + 1, i + 1, by omega, ?_, fun R k kx => ?_⟩
        · simp only [C3]
          rw [if_pos ⟨c1, by omega, by omega, by omega, c5⟩, ← h, hdr, hi1]
          simp only [cnt, List.countP_cons, hb, if_true]
          congr 3
          omega
        · simp only [R3, decide_eq_true_eq, hi, c2, hx, hb, hw, hwn, if_true]
      · refine ⟨l, left, n, i + 1, by omega, ?_, fun R k kx => ?_⟩
        · simp only [C3]
          rw [if_pos ⟨c1, by omega, by omega, by omega, c5⟩, ← h, hdr, hi1]
          simp only [cnt, List.countP_cons, hb]
          rfl
        · simp only [R3, decide_eq_true_eq, hi, c2, hx, hb, hw, hwn, if_true, if_false]
          rfl
    · right
      intro R k kx
      have : l.drop i.toNat = [] := List.drop_eq_nil_of_le (by omega)
      rw [← h, this]
      simp [R3, hi, cnt]
  · cases h
def Pre (l : List Int) (left : List Bool) : Bool := decide (l.length < 2 ^ 62 ∧ ∀ x ∈ l, 0 ≤ x ∧ x < (left.length : Int))
def Fn (l : List Int) (left : List Bool) : Int := cnt left l
theorem run_eq {l : List Int} {left : List Bool} (h : Pre l left = true) : run' l left = some (Fn l left, ()) := by
  have h' : l.length < 2 ^ 62 ∧ ∀ x ∈ l, 0 ≤ x ∧ x < (left.length : Int) := of_decide_eq_true h
  unfold run'
  rw [F3_is l left 0 0 _ (if_pos ⟨h'.1, by omega, by omega, by omega, h'.2⟩)]
  simp [Fn]
end here
namespace H7
open Hx
def C7 (l0 : (List Int)) (most1 : Int) (h5 : Int) (n6 : Int) (i7 : Int) : Option X7 :=
  if l0.length < 2 ^ 62 ∧ 0 ≤ i7 ∧ 0 ≤ n6 ∧ n6 ≤ i7 then some ((l0, most1, h5, n6 + over (l0.drop i7.toNat) h5, ()), ()) else none
def C2 (l0 : (List Int)) (most1 : Int) (h5 : Int) : Option X2 :=
  if l0.length < 2 ^ 62 ∧ h5 ≤ 2 ^ 62 then some (match top l0 most1 h5.toNat with
    | 0 => Sum.inr ((), ())
    | h + 1 => Sum.inl ((((h + 1 : Nat) : Int), ()), ())) else none
theorem F7_is : ∀ (l0 : (List Int)) (most1 : Int) (h5 : Int) (n6 : Int) (i7 : Int) (z : X7), C7 l0 most1 h5 n6 i7 = some z → F7 l0 most1 h5 n6 i7 = some z := by
  refine F7_of C7 (fun l _ _ _ i => l.length - i.toNat) (fun l m h n i z hz => ?_)
  simp only [C7] at hz
  split at hz
  · rename_i hc
    injection hz with hz
    obtain ⟨c1, c2, c3, c4⟩ := hc
    by_cases hi : i < (l.length : Int)
    · left
      have hdr := drop_getD 0 l i.toNat (by omega)
      have hi1 : (i + 1).toNat = i.toNat + 1 := by omega
      have hw : IntKind.wrap .i64 (i + 1) = i + 1 := wr (by omega) (by omega)
      have hwn : IntKind.wrap .i64 (n + 1) = n + 1 := wr (by omega) (by omega)
      by_cases hb : l.getD i.toNat 0 ≥ h
      · refine ⟨l, m, h, n + 1, i + 1, by omega, ?_, fun R k kx => ?_⟩
        · simp only [C7]
          rw [if_pos ⟨c1, by omega, by omega, by omega⟩, ← hz, hdr, hi1]
          simp only [over, List.countP_cons, hb, decide_true, if_true]
          congr 6
          omega
        · simp only [R7, decide_eq_true_eq, hi, c2, hb, hw, hwn, if_true]
      · refine ⟨l, m, h, n, i + 1, by omega, ?_, fun R k kx => ?_⟩
        · simp only [C7]
          rw [if_pos ⟨c1, by omega, by omega, by omega⟩, ← hz, hdr, hi1]
          simp only [over, List.countP_cons, hb, decide_false]
          rfl
        · simp only [R7, decide_eq_true_eq, hi, c2, hb, hw, hwn, if_true, if_false]
    · right
      intro R k kx
      have : l.drop i.toNat = [] := List.drop_eq_nil_of_le (by omega)
      rw [← hz, this]
      simp [R7, hi, over]
  · cases hz
theorem F2_is : ∀ (l0 : (List Int)) (most1 : Int) (h5 : Int) (z : X2), C2 l0 most1 h5 = some z → F2 l0 most1 h5 = some z := by
  refine F2_of C2 (fun _ _ h => h.toNat) (fun l m h z hz => ?_)
  simp only [C2] at hz
  split at hz
  · rename_i hc
    injection hz with hz
    obtain ⟨c1, c2⟩ := hc
    by_cases h0 : h > 0
    · obtain ⟨g, rfl⟩ : ∃ g : Nat, h = ((g + 1 : Nat) : Int) := ⟨(h - 1).toNat, by omega⟩
      have e1 : ((g + 1 : Nat) : Int).toNat = g + 1 := by omega
      rw [e1] at hz
      have hw : IntKind.wrap .i64 (((g + 1 : Nat) : Int) - 1) = ((g : Nat) : Int) := by rw [wr (by omega) (by omega)]; omega
      have hF : F7 l m ((g + 1 : Nat) : Int) 0 0 = some ((l, m, ((g + 1 : Nat) : Int), over l ((g + 1 : Nat) : Int), ()), ()) := by
        rw [F7_is l m _ 0 0 _ (if_pos ⟨c1, by omega, by omega, by omega⟩)]
        simp
      by_cases hm : ((g + 1 : Nat) : Int) > m
      · left
        refine ⟨l, m, ((g : Nat) : Int), by omega, ?_, fun R k kx => ?_⟩
        · simp only [C2]
          rw [if_pos ⟨c1, by omega⟩, ← hz, Int.toNat_natCast, top, if_neg (by omega)]
        · simp only [R2, decide_eq_true_eq, h0, hm, hw, if_true]
      · by_cases ho : over l ((g + 1 : Nat) : Int) ≥ ((g + 1 : Nat) : Int)
        · right
          intro R k kx
          rw [← hz, top, if_pos ⟨by omega, ho⟩]
          simp only [R2, decide_eq_true_eq, h0, hm, hF, ho, if_true, if_false]
        · left
          refine ⟨l, m, ((g : Nat) : Int), by omega, ?_, fun R k kx => ?_⟩
          · simp only [C2]
            rw [if_pos ⟨c1, by omega⟩, ← hz, Int.toNat_natCast, top, if_neg (by omega)]
          · simp only [R2, decide_eq_true_eq, h0, hm, hF, ho, hw, if_true, if_false]
    · right
      intro R k kx
      have : h.toNat = 0 := by omega
      rw [← hz, this]
      simp only [R2, decide_eq_true_eq, h0, if_false, top]
  · cases hz
def Pre (l : List Int) : Bool := decide (l.length < 2 ^ 62)
def Fn (l : List Int) (most : Int) : Int := (top l most l.length : Nat)
theorem run_eq {l : List Int} {most : Int} (h : Pre l = true) : run' l most = some (Fn l most, ()) := by
  have h' : l.length < 2 ^ 62 := of_decide_eq_true h
  unfold run'
  rw [F2_is l most _ _ (if_pos ⟨h', by omega⟩), Int.toNat_natCast, Fn]
  cases top l most l.length <;> rfl
end H7
namespace SameInts
def C4 (a0 : (List Int)) (b1 : (List Int)) (i5 : Int) : Option X4 :=
  if a0.length < 2 ^ 62 ∧ 0 ≤ i5 ∧ a0.length = b1.length then some (if a0.drop i5.toNat = b1.drop i5.toNat then Sum.inr ((), ()) else Sum.inl ((false, ()), ())) else none
theorem F4_is : ∀ (a0 : (List Int)) (b1 : (List Int)) (i5 : Int) (z : X4), C4 a0 b1 i5 = some z → F4 a0 b1 i5 = some z := by
  refine F4_of C4 (fun l _ i => l.length - i.toNat) (fun a b i z hz => ?_)
  simp only [C4] at hz
  split at hz
  · rename_i hc
    injection hz with hz
    obtain ⟨c1, c2, c3⟩ := hc
    by_cases hi : i < (a.length : Int)
    · have hib : i < (b.length : Int) := by omega
      have hdr := drop_getD 0 a i.toNat (by omega)
      have hdb := drop_getD 0 b i.toNat (by omega)
      have hi1 : (i + 1).toNat = i.toNat + 1 := by omega
      have hw : IntKind.wrap .i64 (i + 1) = i + 1 := wr (by omega) (by omega)
      by_cases hb : a.getD i.toNat 0 = b.getD i.toNat 0
      · left
        refine ⟨a, b, i + 1, by omega, ?_, fun R k kx => ?_⟩
        · simp only [C4]
          rw [if_pos ⟨c1, by omega, c3⟩, ← hz, hdr, hdb, hi1, hb]
          simp only [List.cons.injEq, true_and]
        · simp only [R4, decide_eq_true_eq, hi, hib, c2, hb, hw, if_true]
          simp
      · right
        intro R k kx
        rw [← hz, hdr, hdb, if_neg (fun e => hb (by injection e))]
        simp only [R4, decide_eq_true_eq, hi, hib, c2, hw, if_true]
        rw [if_pos (by simpa using hb)]
    · right
      intro R k kx
      have e1 : a.drop i.toNat = [] := List.drop_eq_nil_of_le (by omega)
      have e2 : b.drop i.toNat = [] := List.drop_eq_nil_of_le (by omega)
      rw [← hz, e1, e2]
      simp [R4, hi]
  · cases hz
def Pre (a b : List Int) : Bool := decide (a.length < 2 ^ 62)
def Fn (a b : List Int) : Bool := decide (a = b)
theorem run_eq {a b : List Int} (h : Pre a b = true) : run' a b = some (Fn a b, ()) := by
  have h' : a.length < 2 ^ 62 := of_decide_eq_true h
  unfold run'
  by_cases hl : a.length = b.length
  · rw [if_neg (by simp [hl]), F4_is a b 0 _ (if_pos ⟨h', by omega, hl⟩)]
    by_cases hab : a = b
    · simp [Fn, hab]
    · simp [Fn, hab]
  · rw [if_pos (by simp; omega), Fn, decide_eq_false (fun e => hl (by rw [e]))]
end SameInts
namespace Ints
def C3 (l0 : (List Int)) (i4 : Int) (r0 : List Int) : Option X3 :=
  if l0.length * 8 ≤ 140737488355328 ∧ 0 ≤ i4 ∧ (r0.length : Int) = i4 ∧ i4 ≤ l0.length then some ((), (r0 ++ l0.drop i4.toNat, ())) else none
theorem F3_is : ∀ (l0 : (List Int)) (i4 : Int) (r0 : List Int) (z : X3), C3 l0 i4 r0 = some z → F3 l0 i4 r0 = some z := by
  refine F3_of C3 (fun l i _ => l.length - i.toNat) (fun l i r z hz => ?_)
  simp only [C3] at hz
  split at hz
  · rename_i hc
    injection hz with hz
    obtain ⟨c1, c2, c3, c4⟩ := hc
    by_cases hi : i < (l.length : Int)
    · left
      have hdr := drop_getD 0 l i.toNat (by omega)
      have hi1 : (i + 1).toNat = i.toNat + 1 := by omega
      have hw : IntKind.wrap .i64 (i + 1) = i + 1 := wr (by omega) (by omega)
      refine ⟨l, i + 1, r ++ [l.getD i.toNat 0], by omega, ?_, fun R k kx => ?_⟩
      · simp only [C3, List.length_append, List.length_singleton]
        rw [if_pos ⟨c1, by omega, by omega, by omega⟩, ← hz, hdr, hi1]
        simp only [List.append_assoc, List.singleton_append]
      · have hroom : (r.length + 1) * 8 ≤ 140737488355328 := by omega
        simp only [R3, decide_eq_true_eq, hi, c2, hw, hroom, List.length_singleton, if_true]
    · right
      intro R k kx
      have e1 : l.drop i.toNat = [] := List.drop_eq_nil_of_le (by omega)
      rw [← hz, e1]
      simp [R3, hi]
  · cases hz
def Pre (l : List Int) : Bool := decide (l.length * 8 ≤ 140737488355328)
def Fn (l : List Int) : List Int := l
theorem run_eq {l : List Int} (h : Pre l = true) : run' l = some (Fn l, ()) := by
  have h' : l.length * 8 ≤ 140737488355328 := of_decide_eq_true h
  unfold run'
  rw [Int.toNat_natCast, if_pos h', F3_is l 0 [] _ (if_pos ⟨h', by omega, by simp, by omega⟩)]
  simp [Fn]
end Ints
namespace fits
def C2 (est0 : (List Int)) (n1 : Int) (i5 : Int) : Option X2 :=
  if est0.length < 2 ^ 63 ∧ 0 ≤ i5 then some (if ∃ x ∈ est0.drop i5.toNat, x < 0 then Sum.inl ((false, ()), ()) else Sum.inr ((est0, n1, ()), ())) else none
theorem F2_is : ∀ (est0 : (List Int)) (n1 : Int) (i5 : Int) (z : X2), C2 est0 n1 i5 = some z → F2 est0 n1 i5 = some z := by
  refine F2_of C2 (fun l _ i => l.length - i.toNat) (fun l n i z hz => ?_)
  simp only [C2] at hz
  split at hz
  · rename_i hc
    injection hz with hz
    obtain ⟨c1, c2⟩ := hc
    by_cases hi : i < (l.length : Int)
    · have hdr := drop_getD 0 l i.toNat (by omega)
      have hi1 : (i + 1).toNat = i.toNat + 1 := by omega
      have hw : IntKind.wrap .i64 (i + 1) = i + 1 := wr (by omega) (by omega)
      by_cases hb : l.getD i.toNat 0 < 0
      · right
        intro R k kx
        rw [← hz, hdr, if_pos ⟨_, by simp, hb⟩]
        simp only [R2, decide_eq_true_eq, hi, c2, hb, if_true]
      · left
        refine ⟨l, n, i + 1, by omega, ?_, fun R k kx => ?_⟩
        · simp only [C2]
          rw [if_pos ⟨c1, by omega⟩, ← hz, hdr, hi1]
          simp only [List.mem_cons, exists_eq_or_imp, hb, false_or]
        · simp only [R2, decide_eq_true_eq, hi, c2, hb, hw, if_true, if_false]
    · right
      intro R k kx
      have e1 : l.drop i.toNat = [] := List.drop_eq_nil_of_le (by omega)
      rw [← hz, e1]
      simp [R2, hi]
  · cases hz
def Pre (l : List Int) : Bool := decide (l.length < 2 ^ 63)
def Fn (l : List Int) (n : Int) : Bool := decide (∀ x ∈ l, 0 ≤ x) && ((l.length : Int) == n)
theorem run_eq {l : List Int} {n : Int} (h : Pre l = true) : run' l n = some (Fn l n, ()) := by
  have h' : l.length < 2 ^ 63 := of_decide_eq_true h
  unfold run'
  rw [F2_is l n 0 _ (if_pos ⟨h', by omega⟩)]
  by_cases hb : ∃ x ∈ l.drop (0 : Int).toNat, x < 0
  · rw [if_pos hb]
    obtain ⟨x, h1, h2⟩ := hb
    have : ¬ ∀ x ∈ l, 0 ≤ x := fun hh => by
      have := hh x (by simpa using h1)
      omega
    simp [Fn, this]
  · rw [if_neg hb]
    have : ∀ x ∈ l, 0 ≤ x := fun x hx => by
      rcases Int.lt_or_le x 0 with q | q
      · exact absurd ⟨x, by simpa using hx, q⟩ hb
      · exact q
    have e : decide (∀ x ∈ l, 0 ≤ x) = true := decide_eq_true this
    simp only [Fn, e, Bool.true_and]
end fits
namespace est0
def Pre (l : List Int) : Bool := decide (0 < l.length ∧ l.length < 2 ^ 62)
def Fn (l : List Int) : List Int := l.take (l.length - 1)
theorem run_eq {l : List Int} (h : Pre l = true) : run' l = some (Fn l, ()) := by
  have h' : 0 < l.length ∧ l.length < 2 ^ 62 := of_decide_eq_true h
  have hw : IntKind.wrap .i64 ((l.length : Int) - 1) = ((l.length - 1 : Nat) : Int) := by rw [wr (by omega) (by omega)]; omega
  simp only [run', hw, Int.toNat_natCast]
  rw [if_pos (by omega), if_pos (by omega)]
  rfl
end est0
theorem here.okR : Enters Try.prog 131 ∧ Sound Try.prog rho 131 here.sig := here.ok (fun p hp => by
  cases hp)
theorem H7.okR : Enters Try.prog 69 ∧ Sound Try.prog rho 69 H7.sig := H7.ok (fun p hp => by
  cases hp)
theorem SameInts.okR : Enters Try.prog 53 ∧ Sound Try.prog rho 53 SameInts.sig := SameInts.ok (fun p hp => by
  cases hp)
theorem Ints.okR : Enters Try.prog 67 ∧ Sound Try.prog rho 67 Ints.sig := Ints.ok (fun p hp => by
  cases hp)
theorem fits.okR : Enters Try.prog 72 ∧ Sound Try.prog rho 72 fits.sig := fits.ok (fun p hp => by
  cases hp)
theorem est0.okR : Enters Try.prog 73 ∧ Sound Try.prog rho 73 est0.sig := est0.ok (fun p hp => by
  cases hp)
theorem Sweep7.okR : Enters Try.prog 75 ∧ Sound Try.prog rho 75 Sweep7.sig := Sweep7.ok (fun p hp => by
  simp only [List.mem_cons, List.not_mem_nil, or_false] at hp
  rcases hp with rfl
  exact H7.okR)
theorem Run7.okR : Enters Try.prog 77 ∧ Sound Try.prog rho 77 Run7.sig := Run7.ok (fun p hp => by
  simp only [List.mem_cons, List.not_mem_nil, or_false] at hp
  rcases hp with rfl
  exact Sweep7.okR)
theorem Cores7.okR : Enters Try.prog 78 ∧ Sound Try.prog rho 78 Cores7.sig := Cores7.ok (fun p hp => by
  simp only [List.mem_cons, List.not_mem_nil, or_false] at hp
  rcases hp with rfl
  exact here.okR)
end Go.Proofs.Ythbojpaghbbnnaa.Z
