/- A part of a claim: what its statement needs. No condition. -/
import Derived.Test.YthbojpaghbbnnaaDoorQ581a652f5d
namespace Go.Proofs.YthbojpaghbbnnaaDoor.Z
open Go Go.RowKit
set_option linter.unusedVariables false
set_option linter.unusedSimpArgs false
namespace n17
abbrev ps : List PM := [.val (.list I64)]
abbrev rs : List PM := [.val I64]
noncomputable abbrev code : Code := (Go.Proofs.Tryd.f73.body.getD .skip)
noncomputable def env : Env := mkEnv tabD [] 0 [] []
abbrev D : Type := (Int × Unit)
noncomputable def run' (cuts0 : (List Int)) : Option D := (if ((↑(List.length cuts0) : Int) == (0 : Int)) = Bool.true then some ((0 : Int), ())
 else (if (0 : Int) ≤ IntKind.wrap .i64 ((↑(List.length cuts0) : Int) - (1 : Int)) then (if IntKind.wrap .i64 ((↑(List.length cuts0) : Int) - (1 : Int)) < (↑(List.length cuts0) : Int) then some (List.getD cuts0 (Int.toNat (IntKind.wrap .i64 ((↑(List.length cuts0) : Int) - (1 : Int)))) (0 : Int), ())
 else none)
 else none))
noncomputable def run (d : Ds (List.map PM.ty ps)) : Option (Ds (muts ps ++ List.map PM.ty rs)) := match d with
  | (cuts0, _) => run' cuts0
theorem run_is : ∀ d, runF env 12 code [2] ps rs d = run d := fun d => by kernel_rfl
theorem loops : LoopsOk env code := loopsOk_of (l := []) (by kernel_rfl) (fun p hp => by
  cases hp)
noncomputable def pre (cuts0 : (List Int)) : Bool := (run' cuts0).isSome
noncomputable def fn (cuts0 : (List Int)) : D := match run' cuts0 with
  | some x => x
  | none => default
noncomputable def sig : Sig := ⟨ps, rs, fun d => match d with
  | (cuts0, _) => pre cuts0, fun d => match d with
  | (cuts0, _) => fn cuts0, false⟩
theorem run_fn (cuts0 : (List Int)) (h : pre cuts0 = true) : run' cuts0 = some (fn cuts0) := by
  unfold pre at h
  unfold fn
  cases e : run' cuts0 with
  | some x => rfl
  | none => rw [e] at h; cases h
theorem is_fn (cuts0 : (List Int)) {x : D} (h : run' cuts0 = some x) : pre cuts0 = true ∧ fn cuts0 = x := by
  unfold pre fn
  rw [h]
  exact ⟨rfl, rfl⟩
theorem sound {ρ : Obs} (hE : EnvOk Go.Proofs.Tryd.prog ρ env) : Sound Go.Proofs.Tryd.prog ρ 73 sig := sound_of (fn := Go.Proofs.Tryd.f73) (c := code) (res := [2]) hE (by kernel_rfl) (by kernel_rfl) (by kernel_rfl) (by kernel_rfl) (by kernel_rfl) loops rfl (show 1 ≤ 12 by decide) (fun d hd => (run_is d).trans (by
  obtain ⟨cuts0, _⟩ := d
  exact run_fn cuts0 hd))
theorem enters : Enters Go.Proofs.Tryd.prog 73 := enters_of (fn := Go.Proofs.Tryd.f73) (by kernel_rfl) (by kernel_rfl) (by kernel_rfl)
theorem ok {ρ : Obs} (h : ∀ p ∈ ([] : List (FuncId × Sig)), Enters Go.Proofs.Tryd.prog p.1 ∧ Sound Go.Proofs.Tryd.prog ρ p.1 p.2) : Enters Go.Proofs.Tryd.prog 73 ∧ Sound Go.Proofs.Tryd.prog ρ 73 sig := ⟨enters, sound (envOk_of tabDOk h)⟩
theorem okR : Enters Go.Proofs.Tryd.prog 73 ∧ Sound Go.Proofs.Tryd.prog rho 73 sig := ok (fun p hp => by
  cases hp)
end n17
namespace mayR
abbrev ps : List PM := [.val (.list I64), .val (.list I64)]
abbrev rs : List PM := [.val .bool]
noncomputable abbrev code : Code := (Go.Proofs.Tryd.f65.body.getD .skip)
abbrev s4 : Shape := ⟨[.un, .v (.list I64), .un, .un, .un, .v I64, .un, .un, .un, .un, .un, .un, .un, .un, .un, .un, .un, .un, .un, .un, .un, .un, .un, .un, .un, .un, .un, .un, .un, .un, .un], []⟩
abbrev x4 : List Way := [⟨.rt, ⟨[(4, none)]⟩, ⟨[.un, .un, .un, .un, .v .bool, .un, .un, .un, .un, .un, .un, .un, .un, .un, .un, .un, .un, .un, .un, .un, .un, .un, .un, .un, .un, .un, .un, .un, .un, .un, .un], []⟩⟩, ⟨(.ex 0), ⟨[]⟩, ⟨[.un, .un, .un, .un, .un, .un, .un, .un, .un, .un, .un, .un, .un, .un, .un, .un, .un, .un, .un, .un, .un, .un, .un, .un, .un, .un, .un, .un, .un, .un, .un], []⟩⟩]
abbrev V4 : Type := ((List Int) × Int × Unit) × (Unit)
abbrev X4 : Type := ((Bool × Unit) × (Unit)) ⊕ ((Unit) × (Unit))
noncomputable def R4 {R : Type} (degrees1 : (List Int)) (v5 : Int) (k : V4 → Option R) (kx : X4 → Option R) : Option R := (if Decidable.decide (v5 < (↑(List.length degrees1) : Int)) = Bool.true then (if (0 : Int) ≤ v5 then (if v5 < (↑(List.length degrees1) : Int) then (if Decidable.decide (List.getD degrees1 (Int.toNat v5) (0 : Int) < (0 : Int)) = Bool.false then (if (0 : Int) ≤ v5 then (if v5 < (↑(List.length degrees1) : Int) then (if Decidable.decide (List.getD degrees1 (Int.toNat v5) (0 : Int) ≥ (↑(List.length degrees1) : Int)) = Bool.true then kx (Sum.inl <| ((Bool.false, ()), (())))
 else k ((degrees1, IntKind.wrap .i64 (v5 + (1 : Int)), ()), (())))
 else none)
 else none)
 else kx (Sum.inl <| ((Bool.false, ()), (()))))
 else none)
 else none)
 else kx (Sum.inr <| ((()), (()))))
noncomputable def rd4 : Rd (VO s4) (Xs x4) := fun v k kx => match v with
  | ((degrees1, v5, _), _) => R4 degrees1 v5 k kx
noncomputable def F4 (degrees1 : (List Int)) (v5 : Int) : Option X4 := finOf rd4 ((degrees1, v5, ()), (()))
theorem F4_inv {degrees1 : (List Int)} (I : Int → Prop) (μ : Int → Nat) (Q : X4 → Prop) (h : ∀ (v5 : Int), I v5 → Led (fun (R : Type) (k : V4 → Option R) (kx : X4 → Option R) => R4 degrees1 v5 k kx) (fun v => ∃ (v5' : Int), v = ((degrees1, v5', ()), ()) ∧ I v5' ∧ μ v5' < μ v5) Q) : ∀ (v5 : Int), I v5 → ∃ z, F4 degrees1 v5 = some z ∧ Q z := fun v5 hi => by
  refine finOf_inv (V := V4) (X := X4) (rd := rd4) (fun v => ∃ (v5' : Int), v = ((degrees1, v5', ()), ()) ∧ I v5') (fun v => match v with
    | ((degrees1, v5, _), _) => μ v5) Q (fun v hv => ?_) ((degrees1, v5, ()), ()) ⟨v5, rfl, hi⟩
  obtain ⟨v5, rfl, hi⟩ := hv
  refine led_mono (h v5 hi) ?_ (fun _ q => q)
  rintro v ⟨v5', rfl, h1, h2⟩
  exact ⟨⟨v5', rfl, h1⟩, h2⟩
noncomputable def L4 : Lp := ⟨4, ⟨[(1, none), (5, none)]⟩, s4, x4, fun v => match v with
  | ((degrees1, v5, _), _) => F4 degrees1 v5⟩
theorem ends4 : Ends L4 rd4 := ends_fin (fun v => by
  obtain ⟨⟨degrees1, v5, _⟩, ⟨_⟩⟩ := v
  rfl)
noncomputable def env : Env := mkEnv tabD [(73, n17.sig)] 0 [] [L4]
theorem round4 : RoundIs env (sub [true, true, false, true, false, false] code) L4 rd4 := fun R v k kx => by kernel_rfl
abbrev D : Type := (Bool × Unit)
noncomputable def run' (cuts0 : (List Int)) (degrees1 : (List Int)) : Option D := (if n17.pre cuts0 = Bool.true then (if ((↑(List.length degrees1) : Int) != (n17.fn cuts0).1) = Bool.true then some (Bool.false, ())
 else (match F4 (degrees1) ((0 : Int)) with
  | some (Sum.inl <| ((t4_1, _), _)) => some (t4_1, ())
  | some (Sum.inr <| (_, _)) => some (Bool.true, ())
  | none => none))
 else none)
noncomputable def run (d : Ds (List.map PM.ty ps)) : Option (Ds (muts ps ++ List.map PM.ty rs)) := match d with
  | (cuts0, degrees1, _) => run' cuts0 degrees1
theorem run_is : ∀ d, runF env 31 code [4] ps rs d = run d := fun d => by kernel_rfl
theorem loops : LoopsOk env code := loopsOk_of (l := [[true, true, false, true, false, false]]) (by kernel_rfl) (fun p hp => by
  simp only [List.mem_cons, List.not_mem_nil, or_false] at hp
  rcases hp with rfl
  · exact loopOk_lp (L := L4) (x := sub [true, true, false, true, false, false] code) (by kernel_rfl) (by simp [L4]) round4 ends4
  )
noncomputable def pre (cuts0 : (List Int)) (degrees1 : (List Int)) : Bool := (run' cuts0 degrees1).isSome
noncomputable def fn (cuts0 : (List Int)) (degrees1 : (List Int)) : D := match run' cuts0 degrees1 with
  | some x => x
  | none => default
noncomputable def sig : Sig := ⟨ps, rs, fun d => match d with
  | (cuts0, degrees1, _) => pre cuts0 degrees1, fun d => match d with
  | (cuts0, degrees1, _) => fn cuts0 degrees1, false⟩
theorem run_fn (cuts0 : (List Int)) (degrees1 : (List Int)) (h : pre cuts0 degrees1 = true) : run' cuts0 degrees1 = some (fn cuts0 degrees1) := by
  unfold pre at h
  unfold fn
  cases e : run' cuts0 degrees1 with
  | some x => rfl
  | none => rw [e] at h; cases h
theorem is_fn (cuts0 : (List Int)) (degrees1 : (List Int)) {x : D} (h : run' cuts0 degrees1 = some x) : pre cuts0 degrees1 = true ∧ fn cuts0 degrees1 = x := by
  unfold pre fn
  rw [h]
  exact ⟨rfl, rfl⟩
theorem sound {ρ : Obs} (hE : EnvOk Go.Proofs.Tryd.prog ρ env) : Sound Go.Proofs.Tryd.prog ρ 65 sig := sound_of (fn := Go.Proofs.Tryd.f65) (c := code) (res := [4]) hE (by kernel_rfl) (by kernel_rfl) (by kernel_rfl) (by kernel_rfl) (by kernel_rfl) loops rfl (show 2 ≤ 31 by decide) (fun d hd => (run_is d).trans (by
  obtain ⟨cuts0, degrees1, _⟩ := d
  exact run_fn cuts0 degrees1 hd))
theorem enters : Enters Go.Proofs.Tryd.prog 65 := enters_of (fn := Go.Proofs.Tryd.f65) (by kernel_rfl) (by kernel_rfl) (by kernel_rfl)
theorem ok {ρ : Obs} (h : ∀ p ∈ ([(73, n17.sig)] : List (FuncId × Sig)), Enters Go.Proofs.Tryd.prog p.1 ∧ Sound Go.Proofs.Tryd.prog ρ p.1 p.2) : Enters Go.Proofs.Tryd.prog 65 ∧ Sound Go.Proofs.Tryd.prog ρ 65 sig := ⟨enters, sound (envOk_of tabDOk h)⟩
theorem okR : Enters Go.Proofs.Tryd.prog 65 ∧ Sound Go.Proofs.Tryd.prog rho 65 sig := ok (fun p hp => by
  simp only [List.mem_cons, List.not_mem_nil, or_false] at hp
  rcases hp with rfl
  · exact n17.okR)
end mayR
namespace RangeR
abbrev ps : List PM := [.val (.list I64), .val I64]
abbrev rs : List PM := [.val I64, .val I64]
noncomputable abbrev code : Code := (Go.Proofs.Tryd.f74.body.getD .skip)
noncomputable def env : Env := mkEnv tabD [] 0 [(4, [0, 1, 2, 3, 4]), (5, [0, 1, 2, 3, 4, 5, 6, 7, 8, 9, 10])] []
abbrev D : Type := (Int × Int × Unit)
noncomputable def run' (cuts0 : (List Int)) (i1 : Int) : Option D := (if Decidable.decide (i1 < (0 : Int)) = Bool.false then (if Decidable.decide (i1 ≥ (↑(List.length cuts0) : Int)) = Bool.true then some ((0 : Int), (0 : Int), ())
 else (if (i1 == (0 : Int)) = Bool.true then (if (0 : Int) < (↑(List.length cuts0) : Int) then some ((0 : Int), List.getD cuts0 (Int.toNat (0 : Int)) (0 : Int), ())
 else none)
 else (if (0 : Int) ≤ IntKind.wrap .i64 (i1 - (1 : Int)) then (if IntKind.wrap .i64 (i1 - (1 : Int)) < (↑(List.length cuts0) : Int) then (if (0 : Int) ≤ i1 then (if i1 < (↑(List.length cuts0) : Int) then some (List.getD cuts0 (Int.toNat (IntKind.wrap .i64 (i1 - (1 : Int)))) (0 : Int), List.getD cuts0 (Int.toNat i1) (0 : Int), ())
 else none)
 else none)
 else none)
 else none)))
 else some ((0 : Int), (0 : Int), ()))
noncomputable def run (d : Ds (List.map PM.ty ps)) : Option (Ds (muts ps ++ List.map PM.ty rs)) := match d with
  | (cuts0, i1, _) => run' cuts0 i1
theorem run_is : ∀ d, runF env 28 code [4, 5] ps rs d = run d := fun d => by kernel_rfl
theorem loops : LoopsOk env code := loopsOk_of (l := []) (by kernel_rfl) (fun p hp => by
  cases hp)
noncomputable def pre (cuts0 : (List Int)) (i1 : Int) : Bool := (run' cuts0 i1).isSome
noncomputable def fn (cuts0 : (List Int)) (i1 : Int) : D := match run' cuts0 i1 with
  | some x => x
  | none => default
noncomputable def sig : Sig := ⟨ps, rs, fun d => match d with
  | (cuts0, i1, _) => pre cuts0 i1, fun d => match d with
  | (cuts0, i1, _) => fn cuts0 i1, false⟩
theorem run_fn (cuts0 : (List Int)) (i1 : Int) (h : pre cuts0 i1 = true) : run' cuts0 i1 = some (fn cuts0 i1) := by
  unfold pre at h
  unfold fn
  cases e : run' cuts0 i1 with
  | some x => rfl
  | none => rw [e] at h; cases h
theorem is_fn (cuts0 : (List Int)) (i1 : Int) {x : D} (h : run' cuts0 i1 = some x) : pre cuts0 i1 = true ∧ fn cuts0 i1 = x := by
  unfold pre fn
  rw [h]
  exact ⟨rfl, rfl⟩
theorem sound {ρ : Obs} (hE : EnvOk Go.Proofs.Tryd.prog ρ env) : Sound Go.Proofs.Tryd.prog ρ 74 sig := sound_of (fn := Go.Proofs.Tryd.f74) (c := code) (res := [4, 5]) hE (by kernel_rfl) (by kernel_rfl) (by kernel_rfl) (by kernel_rfl) (by kernel_rfl) loops rfl (show 2 ≤ 28 by decide) (fun d hd => (run_is d).trans (by
  obtain ⟨cuts0, i1, _⟩ := d
  exact run_fn cuts0 i1 hd))
theorem enters : Enters Go.Proofs.Tryd.prog 74 := enters_of (fn := Go.Proofs.Tryd.f74) (by kernel_rfl) (by kernel_rfl) (by kernel_rfl)
theorem ok {ρ : Obs} (h : ∀ p ∈ ([] : List (FuncId × Sig)), Enters Go.Proofs.Tryd.prog p.1 ∧ Sound Go.Proofs.Tryd.prog ρ p.1 p.2) : Enters Go.Proofs.Tryd.prog 74 ∧ Sound Go.Proofs.Tryd.prog ρ 74 sig := ⟨enters, sound (envOk_of tabDOk h)⟩
theorem okR : Enters Go.Proofs.Tryd.prog 74 ∧ Sound Go.Proofs.Tryd.prog rho 74 sig := ok (fun p hp => by
  cases hp)
end RangeR
namespace ShardR
abbrev ps : List PM := [.val (.list I64), .val I64]
abbrev rs : List PM := [.val I64]
noncomputable abbrev code : Code := (Go.Proofs.Tryd.f66.body.getD .skip)
abbrev s2 : Shape := ⟨[.v (.list I64), .v I64, .un, .un, .un, .v I64, .un, .un, .un, .un, .un, .un, .un, .un, .un, .un, .un, .un, .un, .un, .un, .un, .un, .un, .un, .un, .un, .un, .un], []⟩
abbrev x2 : List Way := [⟨.rt, ⟨[(4, none)]⟩, ⟨[.un, .un, .un, .un, .v I64, .un, .un, .un, .un, .un, .un, .un, .un, .un, .un, .un, .un, .un, .un, .un, .un, .un, .un, .un, .un, .un, .un, .un, .un], []⟩⟩, ⟨(.ex 0), ⟨[]⟩, ⟨[.un, .un, .un, .un, .un, .un, .un, .un, .un, .un, .un, .un, .un, .un, .un, .un, .un, .un, .un, .un, .un, .un, .un, .un, .un, .un, .un, .un, .un], []⟩⟩]
abbrev V2 : Type := ((List Int) × Int × Int × Unit) × (Unit)
abbrev X2 : Type := ((Int × Unit) × (Unit)) ⊕ ((Unit) × (Unit))
noncomputable def R2 {R : Type} (cuts0 : (List Int)) (v1 : Int) (i5 : Int) (k : V2 → Option R) (kx : X2 → Option R) : Option R := (if Decidable.decide (i5 < (↑(List.length cuts0) : Int)) = Bool.true then (if RangeR.pre cuts0 i5 = Bool.true then (if Decidable.decide (v1 ≥ (RangeR.fn cuts0 i5).1) = Bool.true then (if Decidable.decide (v1 < (RangeR.fn cuts0 i5).2.1) = Bool.true then kx (Sum.inl <| ((i5, ()), (())))
 else k ((cuts0, v1, IntKind.wrap .i64 (i5 + (1 : Int)), ()), (())))
 else k ((cuts0, v1, IntKind.wrap .i64 (i5 + (1 : Int)), ()), (())))
 else none)
 else kx (Sum.inr <| ((()), (()))))
noncomputable def rd2 : Rd (VO s2) (Xs x2) := fun v k kx => match v with
  | ((cuts0, v1, i5, _), _) => R2 cuts0 v1 i5 k kx
noncomputable def F2 (cuts0 : (List Int)) (v1 : Int) (i5 : Int) : Option X2 := finOf rd2 ((cuts0, v1, i5, ()), (()))
theorem F2_inv {cuts0 : (List Int)} {v1 : Int} (I : Int → Prop) (μ : Int → Nat) (Q : X2 → Prop) (h : ∀ (i5 : Int), I i5 → Led (fun (R : Type) (k : V2 → Option R) (kx : X2 → Option R) => R2 cuts0 v1 i5 k kx) (fun v => ∃ (i5' : Int), v = ((cuts0, v1, i5', ()), ()) ∧ I i5' ∧ μ i5' < μ i5) Q) : ∀ (i5 : Int), I i5 → ∃ z, F2 cuts0 v1 i5 = some z ∧ Q z := fun i5 hi => by
  refine finOf_inv (V := V2) (X := X2) (rd := rd2) (fun v => ∃ (i5' : Int), v = ((cuts0, v1, i5', ()), ()) ∧ I i5') (fun v => match v with
    | ((cuts0, v1, i5, _), _) => μ i5) Q (fun v hv => ?_) ((cuts0, v1, i5, ()), ()) ⟨i5, rfl, hi⟩
  obtain ⟨i5, rfl, hi⟩ := hv
  refine led_mono (h i5 hi) ?_ (fun _ q => q)
  rintro v ⟨i5', rfl, h1, h2⟩
  exact ⟨⟨i5', rfl, h1⟩, h2⟩
noncomputable def L2 : Lp := ⟨2, ⟨[(0, none), (1, none), (5, none)]⟩, s2, x2, fun v => match v with
  | ((cuts0, v1, i5, _), _) => F2 cuts0 v1 i5⟩
theorem ends2 : Ends L2 rd2 := ends_fin (fun v => by
  obtain ⟨⟨cuts0, v1, i5, _⟩, ⟨_⟩⟩ := v
  rfl)
noncomputable def env : Env := mkEnv tabD [(74, RangeR.sig)] 0 [] [L2]
theorem round2 : RoundIs env (sub [true, false, true, false, false] code) L2 rd2 := fun R v k kx => by kernel_rfl
abbrev D : Type := (Int × Unit)
noncomputable def run' (cuts0 : (List Int)) (v1 : Int) : Option D := (match F2 (cuts0) (v1) ((0 : Int)) with
  | some (Sum.inl <| ((t4_1, _), _)) => some (t4_1, ())
  | some (Sum.inr <| (_, _)) => some ((-1 : Int), ())
  | none => none)
noncomputable def run (d : Ds (List.map PM.ty ps)) : Option (Ds (muts ps ++ List.map PM.ty rs)) := match d with
  | (cuts0, v1, _) => run' cuts0 v1
theorem run_is : ∀ d, runF env 29 code [4] ps rs d = run d := fun d => by kernel_rfl
theorem loops : LoopsOk env code := loopsOk_of (l := [[true, false, true, false, false]]) (by kernel_rfl) (fun p hp => by
  simp only [List.mem_cons, List.not_mem_nil, or_false] at hp
  rcases hp with rfl
  · exact loopOk_lp (L := L2) (x := sub [true, false, true, false, false] code) (by kernel_rfl) (by simp [L2]) round2 ends2
  )
noncomputable def pre (cuts0 : (List Int)) (v1 : Int) : Bool := (run' cuts0 v1).isSome
noncomputable def fn (cuts0 : (List Int)) (v1 : Int) : D := match run' cuts0 v1 with
  | some x => x
  | none => default
noncomputable def sig : Sig := ⟨ps, rs, fun d => match d with
  | (cuts0, v1, _) => pre cuts0 v1, fun d => match d with
  | (cuts0, v1, _) => fn cuts0 v1, false⟩
theorem run_fn (cuts0 : (List Int)) (v1 : Int) (h : pre cuts0 v1 = true) : run' cuts0 v1 = some (fn cuts0 v1) := by
  unfold pre at h
  unfold fn
  cases e : run' cuts0 v1 with
  | some x => rfl
  | none => rw [e] at h; cases h
theorem is_fn (cuts0 : (List Int)) (v1 : Int) {x : D} (h : run' cuts0 v1 = some x) : pre cuts0 v1 = true ∧ fn cuts0 v1 = x := by
  unfold pre fn
  rw [h]
  exact ⟨rfl, rfl⟩
theorem sound {ρ : Obs} (hE : EnvOk Go.Proofs.Tryd.prog ρ env) : Sound Go.Proofs.Tryd.prog ρ 66 sig := sound_of (fn := Go.Proofs.Tryd.f66) (c := code) (res := [4]) hE (by kernel_rfl) (by kernel_rfl) (by kernel_rfl) (by kernel_rfl) (by kernel_rfl) loops rfl (show 2 ≤ 29 by decide) (fun d hd => (run_is d).trans (by
  obtain ⟨cuts0, v1, _⟩ := d
  exact run_fn cuts0 v1 hd))
theorem enters : Enters Go.Proofs.Tryd.prog 66 := enters_of (fn := Go.Proofs.Tryd.f66) (by kernel_rfl) (by kernel_rfl) (by kernel_rfl)
theorem ok {ρ : Obs} (h : ∀ p ∈ ([(74, RangeR.sig)] : List (FuncId × Sig)), Enters Go.Proofs.Tryd.prog p.1 ∧ Sound Go.Proofs.Tryd.prog ρ p.1 p.2) : Enters Go.Proofs.Tryd.prog 66 ∧ Sound Go.Proofs.Tryd.prog ρ 66 sig := ⟨enters, sound (envOk_of tabDOk h)⟩
theorem okR : Enters Go.Proofs.Tryd.prog 66 ∧ Sound Go.Proofs.Tryd.prog rho 66 sig := ok (fun p hp => by
  simp only [List.mem_cons, List.not_mem_nil, or_false] at hp
  rcases hp with rfl
  · exact RangeR.okR)
end ShardR
namespace NewR
abbrev ps : List PM := [.val (.list I64), .val (.list I64)]
abbrev rs : List PM := [.nbx 107 [.v (.list I64), .r 3 I64 false, .r 3 I64 false, .r 4 .bool false, .v I64, .v .bool, .v I64, .v I64], .val I64]
noncomputable abbrev code : Code := (Go.Proofs.Tryd.f44.body.getD .skip)
abbrev s6 : Shape := ⟨[.v (.list I64), .v (.list I64), .un, .un, .un, .un, .un, .box 0 0, .v I64, .un, .un, .un, .un, .un, .un, .un, .un, .un, .un, .un, .un, .un, .un, .un, .un, .un, .un, .un, .un, .un, .un, .un, .un, .un, .un, .un, .un, .un, .un, .un, .un, .un, .un, .un], [.cells (107 : Go.TypeId) [.v (.list I64), .row 1, .row 2, .row 3, .v I64, .v .bool, .v I64, .v I64], .row (3 : Go.TypeId) I64, .row (3 : Go.TypeId) I64, .row (4 : Go.TypeId) .bool]⟩
abbrev x6 : List Way := [⟨(.ex 0), ⟨[(7, none)]⟩, ⟨[.un, .un, .un, .un, .un, .un, .un, .box 0 0, .un, .un, .un, .un, .un, .un, .un, .un, .un, .un, .un, .un, .un, .un, .un, .un, .un, .un, .un, .un, .un, .un, .un, .un, .un, .un, .un, .un, .un, .un, .un, .un, .un, .un, .un, .un], [.cells (107 : Go.TypeId) [.v (.list I64), .row 1, .row 2, .row 3, .v I64, .v .bool, .v I64, .v I64], .row (3 : Go.TypeId) I64, .row (3 : Go.TypeId) I64, .row (4 : Go.TypeId) .bool]⟩⟩]
abbrev V6 : Type := ((List Int) × (List Int) × Int × Unit) × (((List Int) × Int × Bool × Int × Int × Unit) × (List Int) × (List Int) × (List Bool) × Unit)
abbrev X6 : Type := (Unit) × (((List Int) × Int × Bool × Int × Int × Unit) × (List Int) × (List Int) × (List Bool) × Unit)
noncomputable def R6 {R : Type} (cuts0 : (List Int)) (degrees1 : (List Int)) (v8 : Int) (c0x0 : (List Int)) (c0x4 : Int) (c0x5 : Bool) (c0x6 : Int) (c0x7 : Int) (r1 : List Int) (r2 : List Int) (r3 : List Bool) (k : V6 → Option R) (kx : X6 → Option R) : Option R := (if Decidable.decide (v8 < (↑(List.length degrees1) : Int)) = Bool.true then (if (0 : Int) ≤ v8 then (if v8 < (↑(List.length degrees1) : Int) then (if Decidable.decide (List.getD degrees1 (Int.toNat v8) (0 : Int) > (0 : Int)) = Bool.true then (if ShardR.pre cuts0 v8 = Bool.true then (if (0 : Int) ≤ (ShardR.fn cuts0 v8).1 then (if (ShardR.fn cuts0 v8).1 < (↑(List.length r3) : Int) then (if Int.toNat (ShardR.fn cuts0 v8).1 < List.length r3 then k ((cuts0, degrees1, IntKind.wrap .i64 (v8 + (1 : Int)), ()), ((c0x0, c0x4, c0x5, c0x6, c0x7, ()), r1, r2, List.set r3 (Int.toNat (ShardR.fn cuts0 v8).1) Bool.true, ()))
 else none)
 else none)
 else none)
 else none)
 else k ((cuts0, degrees1, IntKind.wrap .i64 (v8 + (1 : Int)), ()), ((c0x0, c0x4, c0x5, c0x6, c0x7, ()), r1, r2, r3, ())))
 else none)
 else none)
 else kx (((()), ((c0x0, c0x4, c0x5, c0x6, c0x7, ()), r1, r2, r3, ()))))
noncomputable def rd6 : Rd (VO s6) (Xs x6) := fun v k kx => match v with
  | ((cuts0, degrees1, v8, _), ((c0x0, c0x4, c0x5, c0x6, c0x7, _), r1, r2, r3, _)) => R6 cuts0 degrees1 v8 c0x0 c0x4 c0x5 c0x6 c0x7 r1 r2 r3 k kx
noncomputable def F6 (cuts0 : (List Int)) (degrees1 : (List Int)) (v8 : Int) (c0x0 : (List Int)) (c0x4 : Int) (c0x5 : Bool) (c0x6 : Int) (c0x7 : Int) (r1 : List Int) (r2 : List Int) (r3 : List Bool) : Option X6 := finOf rd6 ((cuts0, degrees1, v8, ()), ((c0x0, c0x4, c0x5, c0x6, c0x7, ()), r1, r2, r3, ()))
theorem F6_inv {cuts0 : (List Int)} {degrees1 : (List Int)} {c0x0 : (List Int)} {c0x4 : Int} {c0x5 : Bool} {c0x6 : Int} {c0x7 : Int} {r1 : List Int} {r2 : List Int} (I : Int → List Bool → Prop) (μ : Int → List Bool → Nat) (Q : X6 → Prop) (h : ∀ (v8 : Int) (r3 : List Bool), I v8 r3 → Led (fun (R : Type) (k : V6 → Option R) (kx : X6 → Option R) => R6 cuts0 degrees1 v8 c0x0 c0x4 c0x5 c0x6 c0x7 r1 r2 r3 k kx) (fun v => ∃ (v8' : Int) (r3' : List Bool), v = ((cuts0, degrees1, v8', ()), ((c0x0, c0x4, c0x5, c0x6, c0x7, ()), r1, r2, r3', ())) ∧ I v8' r3' ∧ μ v8' r3' < μ v8 r3) Q) : ∀ (v8 : Int) (r3 : List Bool), I v8 r3 → ∃ z, F6 cuts0 degrees1 v8 c0x0 c0x4 c0x5 c0x6 c0x7 r1 r2 r3 = some z ∧ Q z := fun v8 r3 hi => by
  refine finOf_inv (V := V6) (X := X6) (rd := rd6) (fun v => ∃ (v8' : Int) (r3' : List Bool), v = ((cuts0, degrees1, v8', ()), ((c0x0, c0x4, c0x5, c0x6, c0x7, ()), r1, r2, r3', ())) ∧ I v8' r3') (fun v => match v with
    | ((cuts0, degrees1, v8, _), ((c0x0, c0x4, c0x5, c0x6, c0x7, _), r1, r2, r3, _)) => μ v8 r3) Q (fun v hv => ?_) ((cuts0, degrees1, v8, ()), ((c0x0, c0x4, c0x5, c0x6, c0x7, ()), r1, r2, r3, ())) ⟨v8, r3, rfl, hi⟩
  obtain ⟨v8, r3, rfl, hi⟩ := hv
  refine led_mono (h v8 r3 hi) ?_ (fun _ q => q)
  rintro v ⟨v8', r3', rfl, h1, h2⟩
  exact ⟨⟨v8', r3', rfl, h1⟩, h2⟩
noncomputable def L6 : Lp := ⟨6, ⟨[(0, none), (1, none), (7, none), (8, none)]⟩, s6, x6, fun v => match v with
  | ((cuts0, degrees1, v8, _), ((c0x0, c0x4, c0x5, c0x6, c0x7, _), r1, r2, r3, _)) => F6 cuts0 degrees1 v8 c0x0 c0x4 c0x5 c0x6 c0x7 r1 r2 r3⟩
theorem ends6 : Ends L6 rd6 := ends_fin (fun v => by
  obtain ⟨⟨cuts0, degrees1, v8, _⟩, ⟨⟨c0x0, c0x4, c0x5, c0x6, c0x7, _⟩, r1, r2, r3, _⟩⟩ := v
  rfl)
noncomputable def env : Env := mkEnvK tabD [(65, mayR.sig), (24, IntsO.sig), (66, ShardR.sig)] 0 (fixL ps) [(9, [0, 1, 2, 3, 4, 5, 6, 7, 8])] [(4, (.step 0 (.step 1 (.step 3 (.step 5 (.step 6 (.alt 2 (.alt 4 (.step 7 (.step 8 (.step 9 (.step 10 .nil)))) (.step 7 (.step 4 (.step 8 (.step 9 (.step 10 .nil)))))) (.step 7 (.step 2 (.step 4 (.step 8 (.step 9 (.step 10 .nil)))))))))))))] [L6]
theorem round6 : RoundIs env (sub [true, true, true, true, false, true, false, false] code) L6 rd6 := fun R v k kx => by kernel_rfl
abbrev D : Type := ((Option ((List Int) × ((List Int) × ((List Int) × ((List Bool) × (Int × (Bool × (Int × (Int × Bool))))))))) × Int × Unit)
noncomputable def run' (cuts0 : (List Int)) (degrees1 : (List Int)) : Option D := (if mayR.pre cuts0 degrees1 = Bool.true then (if (!(mayR.fn cuts0 degrees1).1) = Bool.true then some (Option.none, (172 : Int), ())
 else (bothK (if IntsO.pre degrees1 = Bool.true then (bothK (if IntsO.pre degrees1 = Bool.true then (if (↑(List.length cuts0) : Int) = (↑(List.length cuts0) : Int) then (if Int.toNat (↑(List.length cuts0) : Int) * (1 : Nat) ≤ (140737488355328 : Nat) then (match F6 (cuts0) (degrees1) ((0 : Int)) (cuts0) ((0 : Int)) (Bool.false) ((0 : Int)) ((-1 : Int)) ((IntsO.fn degrees1).1) ((IntsO.fn degrees1).1) (List.replicate (Int.toNat (↑(List.length cuts0) : Int)) Bool.false) with
  | some ((_, ((c0x0_1, c0x4_1, c0x5_1, c0x6_1, c0x7_1, _), r1_1, r2_1, r3_1, _))) => some (Option.some (c0x0_1, r1_1, r2_1, r3_1, c0x4_1, c0x5_1, c0x6_1, c0x7_1, Bool.false), (0 : Int), ())
  | none => none)
 else none)
 else none)
 else none)
 (if (↑(List.length cuts0) : Int) = (↑(List.length cuts0) : Int) then (if Int.toNat (↑(List.length cuts0) : Int) * (1 : Nat) ≤ (140737488355328 : Nat) then (if IntsO.pre degrees1 = Bool.true then (match F6 (cuts0) (degrees1) ((0 : Int)) (cuts0) ((0 : Int)) (Bool.false) ((0 : Int)) ((-1 : Int)) ((IntsO.fn degrees1).1) ((IntsO.fn degrees1).1) (List.replicate (Int.toNat (↑(List.length cuts0) : Int)) Bool.false) with
  | some ((_, ((c0x0_2, c0x4_2, c0x5_2, c0x6_2, c0x7_2, _), r1_2, r2_2, r3_2, _))) => some (Option.some (c0x0_2, r1_2, r2_2, r3_2, c0x4_2, c0x5_2, c0x6_2, c0x7_2, Bool.false), (0 : Int), ())
  | none => none)
 else none)
 else none)
 else none))
 else none)
 (if (↑(List.length cuts0) : Int) = (↑(List.length cuts0) : Int) then (if Int.toNat (↑(List.length cuts0) : Int) * (1 : Nat) ≤ (140737488355328 : Nat) then (if IntsO.pre degrees1 = Bool.true then (if IntsO.pre degrees1 = Bool.true then (match F6 (cuts0) (degrees1) ((0 : Int)) (cuts0) ((0 : Int)) (Bool.false) ((0 : Int)) ((-1 : Int)) ((IntsO.fn degrees1).1) ((IntsO.fn degrees1).1) (List.replicate (Int.toNat (↑(List.length cuts0) : Int)) Bool.false) with
  | some ((_, ((c0x0_3, c0x4_3, c0x5_3, c0x6_3, c0x7_3, _), r1_3, r2_3, r3_3, _))) => some (Option.some (c0x0_3, r1_3, r2_3, r3_3, c0x4_3, c0x5_3, c0x6_3, c0x7_3, Bool.false), (0 : Int), ())
  | none => none)
 else none)
 else none)
 else none)
 else none)))
 else none)
noncomputable def run (d : Ds (List.map PM.ty ps)) : Option (Ds (muts ps ++ List.map PM.ty rs)) := match d with
  | (cuts0, degrees1, _) => run' cuts0 degrees1
theorem run_is : ∀ d, runF env 44 code [4, 5] ps rs d = run d := fun d => by kernel_rfl
theorem loops : LoopsOk env code := loopsOk_of (l := [[true, true, true, true, false, true, false, false]]) (by kernel_rfl) (fun p hp => by
  simp only [List.mem_cons, List.not_mem_nil, or_false] at hp
  rcases hp with rfl
  · exact loopOk_lpK (L := L6) (x := sub [true, true, true, true, false, true, false, false] code) (by kernel_rfl) (by simp [L6]) round6 ends6
  )
noncomputable def pre (cuts0 : (List Int)) (degrees1 : (List Int)) : Bool := (run' cuts0 degrees1).isSome
noncomputable def fn (cuts0 : (List Int)) (degrees1 : (List Int)) : D := match run' cuts0 degrees1 with
  | some x => x
  | none => default
noncomputable def sig : Sig := ⟨ps, rs, fun d => match d with
  | (cuts0, degrees1, _) => pre cuts0 degrees1, fun d => match d with
  | (cuts0, degrees1, _) => fn cuts0 degrees1, false⟩
theorem run_fn (cuts0 : (List Int)) (degrees1 : (List Int)) (h : pre cuts0 degrees1 = true) : run' cuts0 degrees1 = some (fn cuts0 degrees1) := by
  unfold pre at h
  unfold fn
  cases e : run' cuts0 degrees1 with
  | some x => rfl
  | none => rw [e] at h; cases h
theorem is_fn (cuts0 : (List Int)) (degrees1 : (List Int)) {x : D} (h : run' cuts0 degrees1 = some x) : pre cuts0 degrees1 = true ∧ fn cuts0 degrees1 = x := by
  unfold pre fn
  rw [h]
  exact ⟨rfl, rfl⟩
theorem sound {ρ : Obs} (hE : EnvOk Go.Proofs.Tryd.prog ρ env) : Sound Go.Proofs.Tryd.prog ρ 44 sig := sound_of (fn := Go.Proofs.Tryd.f44) (c := code) (res := [4, 5]) hE (by kernel_rfl) (by kernel_rfl) (by kernel_rfl) (by kernel_rfl) (by kernel_rfl) loops rfl (show 2 ≤ 44 by decide) (fun d hd => (run_is d).trans (by
  obtain ⟨cuts0, degrees1, _⟩ := d
  exact run_fn cuts0 degrees1 hd))
theorem enters : Enters Go.Proofs.Tryd.prog 44 := enters_of (fn := Go.Proofs.Tryd.f44) (by kernel_rfl) (by kernel_rfl) (by kernel_rfl)
theorem ok {ρ : Obs} (h : ∀ p ∈ ([(65, mayR.sig), (24, IntsO.sig), (66, ShardR.sig)] : List (FuncId × Sig)), Enters Go.Proofs.Tryd.prog p.1 ∧ Sound Go.Proofs.Tryd.prog ρ p.1 p.2) : Enters Go.Proofs.Tryd.prog 44 ∧ Sound Go.Proofs.Tryd.prog ρ 44 sig := ⟨enters, sound (envOk_ofK tabDOk h)⟩
theorem okR : Enters Go.Proofs.Tryd.prog 44 ∧ Sound Go.Proofs.Tryd.prog rho 44 sig := ok (fun p hp => by
  simp only [List.mem_cons, List.not_mem_nil, or_false] at hp
  rcases hp with rfl | rfl | rfl
  · exact mayR.okR
  · exact IntsO.okR
  · exact ShardR.okR)
end NewR
namespace FromR
abbrev ps : List PM := [.val (.list I64), .val (.list I64), .val Ck]
abbrev rs : List PM := [.nbx 107 [.v (.list I64), .r 3 I64 false, .r 3 I64 false, .r 4 .bool false, .v I64, .v .bool, .v I64, .v I64], .val I64]
noncomputable abbrev code : Code := (Go.Proofs.Tryd.f43.body.getD .skip)
abbrev s7 : Shape := ⟨[.v (.list I64), .v (.list I64), .un, .un, .un, .box 0 0, .un, .un, .un, .v I64, .un, .un, .un, .un, .un, .un, .un, .un, .un, .un, .un, .un, .un, .un, .un, .un, .un, .un, .un, .un, .un, .un, .un, .un, .un, .un, .un, .un, .un, .un, .un, .un, .un, .un, .un, .un, .un, .un, .un, .un, .un, .un, .un, .un, .un, .un, .un, .un, .un, .un, .un, .un, .un, .un, .un, .un, .un, .un, .un, .un, .un], [.cells (25 : Go.TypeId) [.v I64, .v (.list I64), .v (.list .bool)]]⟩
abbrev x7 : List Way := [⟨.rt, ⟨[(6, none), (7, none)]⟩, ⟨[.un, .un, .un, .un, .un, .un, .nlp, .v I64, .un, .un, .un, .un, .un, .un, .un, .un, .un, .un, .un, .un, .un, .un, .un, .un, .un, .un, .un, .un, .un, .un, .un, .un, .un, .un, .un, .un, .un, .un, .un, .un, .un, .un, .un, .un, .un, .un, .un, .un, .un, .un, .un, .un, .un, .un, .un, .un, .un, .un, .un, .un, .un, .un, .un, .un, .un, .un, .un, .un, .un, .un, .un], []⟩⟩, ⟨(.ex 0), ⟨[(0, none), (1, none), (5, none)]⟩, ⟨[.v (.list I64), .v (.list I64), .un, .un, .un, .box 0 0, .un, .un, .un, .un, .un, .un, .un, .un, .un, .un, .un, .un, .un, .un, .un, .un, .un, .un, .un, .un, .un, .un, .un, .un, .un, .un, .un, .un, .un, .un, .un, .un, .un, .un, .un, .un, .un, .un, .un, .un, .un, .un, .un, .un, .un, .un, .un, .un, .un, .un, .un, .un, .un, .un, .un, .un, .un, .un, .un, .un, .un, .un, .un, .un, .un], [.cells (25 : Go.TypeId) [.v I64, .v (.list I64), .v (.list .bool)]]⟩⟩]
abbrev V7 : Type := ((List Int) × (List Int) × Int × Unit) × ((Int × (List Int) × (List Bool) × Unit) × Unit)
abbrev X7 : Type := ((Int × Unit) × (Unit)) ⊕ (((List Int) × (List Int) × Unit) × ((Int × (List Int) × (List Bool) × Unit) × Unit))
noncomputable def R7 {R : Type} (cuts0 : (List Int)) (degrees1 : (List Int)) (v9 : Int) (c0x0 : Int) (c0x1 : (List Int)) (c0x2 : (List Bool)) (k : V7 → Option R) (kx : X7 → Option R) : Option R := (if Decidable.decide (v9 < (↑(List.length degrees1) : Int)) = Bool.true then (if (0 : Int) ≤ v9 then (if v9 < (↑(List.length c0x1) : Int) then (if Decidable.decide (List.getD c0x1 (Int.toNat v9) (0 : Int) < (0 : Int)) = Bool.false then (if (0 : Int) ≤ v9 then (if v9 < (↑(List.length c0x1) : Int) then (if (0 : Int) ≤ v9 then (if v9 < (↑(List.length degrees1) : Int) then (if Decidable.decide (List.getD c0x1 (Int.toNat v9) (0 : Int) > List.getD degrees1 (Int.toNat v9) (0 : Int)) = Bool.true then kx (Sum.inl <| (((180 : Int), ()), (())))
 else k ((cuts0, degrees1, IntKind.wrap .i64 (v9 + (1 : Int)), ()), ((c0x0, c0x1, c0x2, ()), ())))
 else none)
 else none)
 else none)
 else none)
 else kx (Sum.inl <| (((180 : Int), ()), (()))))
 else none)
 else none)
 else kx (Sum.inr <| ((cuts0, degrees1, ()), ((c0x0, c0x1, c0x2, ()), ()))))
noncomputable def rd7 : Rd (VO s7) (Xs x7) := fun v k kx => match v with
  | ((cuts0, degrees1, v9, _), ((c0x0, c0x1, c0x2, _), _)) => R7 cuts0 degrees1 v9 c0x0 c0x1 c0x2 k kx
noncomputable def F7 (cuts0 : (List Int)) (degrees1 : (List Int)) (v9 : Int) (c0x0 : Int) (c0x1 : (List Int)) (c0x2 : (List Bool)) : Option X7 := finOf rd7 ((cuts0, degrees1, v9, ()), ((c0x0, c0x1, c0x2, ()), ()))
theorem F7_inv {cuts0 : (List Int)} {degrees1 : (List Int)} {c0x0 : Int} {c0x1 : (List Int)} {c0x2 : (List Bool)} (I : Int → Prop) (μ : Int → Nat) (Q : X7 → Prop) (h : ∀ (v9 : Int), I v9 → Led (fun (R : Type) (k : V7 → Option R) (kx : X7 → Option R) => R7 cuts0 degrees1 v9 c0x0 c0x1 c0x2 k kx) (fun v => ∃ (v9' : Int), v = ((cuts0, degrees1, v9', ()), ((c0x0, c0x1, c0x2, ()), ())) ∧ I v9' ∧ μ v9' < μ v9) Q) : ∀ (v9 : Int), I v9 → ∃ z, F7 cuts0 degrees1 v9 c0x0 c0x1 c0x2 = some z ∧ Q z := fun v9 hi => by
  refine finOf_inv (V := V7) (X := X7) (rd := rd7) (fun v => ∃ (v9' : Int), v = ((cuts0, degrees1, v9', ()), ((c0x0, c0x1, c0x2, ()), ())) ∧ I v9') (fun v => match v with
    | ((cuts0, degrees1, v9, _), ((c0x0, c0x1, c0x2, _), _)) => μ v9) Q (fun v hv => ?_) ((cuts0, degrees1, v9, ()), ((c0x0, c0x1, c0x2, ()), ())) ⟨v9, rfl, hi⟩
  obtain ⟨v9, rfl, hi⟩ := hv
  refine led_mono (h v9 hi) ?_ (fun _ q => q)
  rintro v ⟨v9', rfl, h1, h2⟩
  exact ⟨⟨v9', rfl, h1⟩, h2⟩
noncomputable def L7 : Lp := ⟨7, ⟨[(0, none), (1, none), (5, none), (9, none)]⟩, s7, x7, fun v => match v with
  | ((cuts0, degrees1, v9, _), ((c0x0, c0x1, c0x2, _), _)) => F7 cuts0 degrees1 v9 c0x0 c0x1 c0x2⟩
theorem ends7 : Ends L7 rd7 := ends_fin (fun v => by
  obtain ⟨⟨cuts0, degrees1, v9, _⟩, ⟨⟨c0x0, c0x1, c0x2, _⟩, _⟩⟩ := v
  rfl)
noncomputable def env : Env := mkEnv tabD [(65, mayR.sig), (24, IntsO.sig), (42, BoolsO.sig)] 0 [(9, [0, 1, 2, 3, 4, 5, 6, 7, 8, 9, 10, 11, 12, 13, 14, 15, 16, 17]), (11, [0, 1, 3, 4, 6, 7, 9, 10, 2, 5, 8, 11, 12, 13, 14])] [L7]
theorem round7 : RoundIs env (sub [true, true, true, true, false, true, false, false] code) L7 rd7 := fun R v k kx => by kernel_rfl
abbrev D : Type := ((Option ((List Int) × ((List Int) × ((List Int) × ((List Bool) × (Int × (Bool × (Int × (Int × Bool))))))))) × Int × Unit)
noncomputable def run' (cuts0 : (List Int)) (degrees1 : (List Int)) (c2 : (Int × ((List Int) × (List Bool)))) : Option D := (if mayR.pre cuts0 degrees1 = Bool.true then (if (!(mayR.fn cuts0 degrees1).1) = Bool.true then some (Option.none, (172 : Int), ())
 else (if Decidable.decide (c2.1 < (0 : Int)) = Bool.false then (if ((↑(List.length c2.2.1) : Int) != (↑(List.length degrees1) : Int)) = Bool.false then (if ((↑(List.length c2.2.2) : Int) != (↑(List.length cuts0) : Int)) = Bool.true then some (Option.none, (180 : Int), ())
 else (match F7 (cuts0) (degrees1) ((0 : Int)) (c2.1) (c2.2.1) (c2.2.2) with
  | some (Sum.inl <| ((t7_1, _), _)) => some (Option.none, t7_1, ())
  | some (Sum.inr <| ((cuts0_2, degrees1_2, _), ((c0x0_2, c0x1_2, c0x2_2, _), _))) => (if IntsO.pre degrees1_2 = Bool.true then (if IntsO.pre c0x1_2 = Bool.true then (if BoolsO.pre c0x2_2 = Bool.true then some (Option.some (cuts0_2, (IntsO.fn degrees1_2).1, (IntsO.fn c0x1_2).1, (BoolsO.fn c0x2_2).1, c0x0_2, Bool.false, (0 : Int), (-1 : Int), Bool.false), (0 : Int), ())
 else none)
 else none)
 else none)
  | none => none))
 else some (Option.none, (180 : Int), ()))
 else some (Option.none, (180 : Int), ())))
 else none)
noncomputable def run (d : Ds (List.map PM.ty ps)) : Option (Ds (muts ps ++ List.map PM.ty rs)) := match d with
  | (cuts0, degrees1, c2, _) => run' cuts0 degrees1 c2
theorem run_is : ∀ d, runF env 71 code [6, 7] ps rs d = run d := fun d => by kernel_rfl
theorem loops : LoopsOk env code := loopsOk_of (l := [[true, true, true, true, false, true, false, false]]) (by kernel_rfl) (fun p hp => by
  simp only [List.mem_cons, List.not_mem_nil, or_false] at hp
  rcases hp with rfl
  · exact loopOk_lp (L := L7) (x := sub [true, true, true, true, false, true, false, false] code) (by kernel_rfl) (by simp [L7]) round7 ends7
  )
noncomputable def pre (cuts0 : (List Int)) (degrees1 : (List Int)) (c2 : (Int × ((List Int) × (List Bool)))) : Bool := (run' cuts0 degrees1 c2).isSome
noncomputable def fn (cuts0 : (List Int)) (degrees1 : (List Int)) (c2 : (Int × ((List Int) × (List Bool)))) : D := match run' cuts0 degrees1 c2 with
  | some x => x
  | none => default
noncomputable def sig : Sig := ⟨ps, rs, fun d => match d with
  | (cuts0, degrees1, c2, _) => pre cuts0 degrees1 c2, fun d => match d with
  | (cuts0, degrees1, c2, _) => fn cuts0 degrees1 c2, false⟩
theorem run_fn (cuts0 : (List Int)) (degrees1 : (List Int)) (c2 : (Int × ((List Int) × (List Bool)))) (h : pre cuts0 degrees1 c2 = true) : run' cuts0 degrees1 c2 = some (fn cuts0 degrees1 c2) := by
  unfold pre at h
  unfold fn
  cases e : run' cuts0 degrees1 c2 with
  | some x => rfl
  | none => rw [e] at h; cases h
theorem is_fn (cuts0 : (List Int)) (degrees1 : (List Int)) (c2 : (Int × ((List Int) × (List Bool)))) {x : D} (h : run' cuts0 degrees1 c2 = some x) : pre cuts0 degrees1 c2 = true ∧ fn cuts0 degrees1 c2 = x := by
  unfold pre fn
  rw [h]
  exact ⟨rfl, rfl⟩
theorem sound {ρ : Obs} (hE : EnvOk Go.Proofs.Tryd.prog ρ env) : Sound Go.Proofs.Tryd.prog ρ 43 sig := sound_of (fn := Go.Proofs.Tryd.f43) (c := code) (res := [6, 7]) hE (by kernel_rfl) (by kernel_rfl) (by kernel_rfl) (by kernel_rfl) (by kernel_rfl) loops rfl (show 3 ≤ 71 by decide) (fun d hd => (run_is d).trans (by
  obtain ⟨cuts0, degrees1, c2, _⟩ := d
  exact run_fn cuts0 degrees1 c2 hd))
theorem enters : Enters Go.Proofs.Tryd.prog 43 := enters_of (fn := Go.Proofs.Tryd.f43) (by kernel_rfl) (by kernel_rfl) (by kernel_rfl)
theorem ok {ρ : Obs} (h : ∀ p ∈ ([(65, mayR.sig), (24, IntsO.sig), (42, BoolsO.sig)] : List (FuncId × Sig)), Enters Go.Proofs.Tryd.prog p.1 ∧ Sound Go.Proofs.Tryd.prog ρ p.1 p.2) : Enters Go.Proofs.Tryd.prog 43 ∧ Sound Go.Proofs.Tryd.prog ρ 43 sig := ⟨enters, sound (envOk_of tabDOk h)⟩
theorem okR : Enters Go.Proofs.Tryd.prog 43 ∧ Sound Go.Proofs.Tryd.prog rho 43 sig := ok (fun p hp => by
  simp only [List.mem_cons, List.not_mem_nil, or_false] at hp
  rcases hp with rfl | rfl | rfl
  · exact mayR.okR
  · exact IntsO.okR
  · exact BoolsO.okR)
end FromR
namespace dirtyR
abbrev ps : List PM := [.bx 107 [.v (.list I64), .r 3 I64 false, .r 3 I64 false, .r 4 .bool false, .v I64, .v .bool, .v I64, .v I64], .val I64]
abbrev rs : List PM := [.val I64]
noncomputable abbrev code : Code := (Go.Proofs.Tryd.f67.body.getD .skip)
abbrev s2 : Shape := ⟨[.box 0 0, .un, .un, .un, .un, .v I64, .un, .un, .un, .un, .un, .un, .un, .un, .un, .un, .un, .un, .un, .un, .un, .un, .un, .un], [.cells (107 : Go.TypeId) [.v (.list I64), .row 1, .row 2, .row 3, .v I64, .v .bool, .v I64, .v I64], .row (3 : Go.TypeId) I64, .row (3 : Go.TypeId) I64, .row (4 : Go.TypeId) .bool]⟩
abbrev x2 : List Way := [⟨.rt, ⟨[(4, none)]⟩, ⟨[.un, .un, .un, .un, .v I64, .un, .un, .un, .un, .un, .un, .un, .un, .un, .un, .un, .un, .un, .un, .un, .un, .un, .un, .un], [.cells (107 : Go.TypeId) [.v (.list I64), .row 1, .row 2, .row 3, .v I64, .v .bool, .v I64, .v I64], .row (3 : Go.TypeId) I64, .row (3 : Go.TypeId) I64, .row (4 : Go.TypeId) .bool]⟩⟩, ⟨(.ex 0), ⟨[]⟩, ⟨[.un, .un, .un, .un, .un, .un, .un, .un, .un, .un, .un, .un, .un, .un, .un, .un, .un, .un, .un, .un, .un, .un, .un, .un], [.cells (107 : Go.TypeId) [.v (.list I64), .row 1, .row 2, .row 3, .v I64, .v .bool, .v I64, .v I64], .row (3 : Go.TypeId) I64, .row (3 : Go.TypeId) I64, .row (4 : Go.TypeId) .bool]⟩⟩]
abbrev V2 : Type := (Int × Unit) × (((List Int) × Int × Bool × Int × Int × Unit) × (List Int) × (List Int) × (List Bool) × Unit)
abbrev X2 : Type := ((Int × Unit) × (((List Int) × Int × Bool × Int × Int × Unit) × (List Int) × (List Int) × (List Bool) × Unit)) ⊕ ((Unit) × (((List Int) × Int × Bool × Int × Int × Unit) × (List Int) × (List Int) × (List Bool) × Unit))
noncomputable def R2 {R : Type} (i5 : Int) (c0x0 : (List Int)) (c0x4 : Int) (c0x5 : Bool) (c0x6 : Int) (c0x7 : Int) (r1 : List Int) (r2 : List Int) (r3 : List Bool) (k : V2 → Option R) (kx : X2 → Option R) : Option R := (if Decidable.decide (i5 < (↑(List.length r3) : Int)) = Bool.true then (if (0 : Int) ≤ i5 then (if i5 < (↑(List.length r3) : Int) then (if List.getD r3 (Int.toNat i5) Bool.false = Bool.true then kx (Sum.inl <| ((i5, ()), ((c0x0, c0x4, c0x5, c0x6, c0x7, ()), r1, r2, r3, ())))
 else k ((IntKind.wrap .i64 (i5 + (1 : Int)), ()), ((c0x0, c0x4, c0x5, c0x6, c0x7, ()), r1, r2, r3, ())))
 else none)
 else none)
 else kx (Sum.inr <| ((()), ((c0x0, c0x4, c0x5, c0x6, c0x7, ()), r1, r2, r3, ()))))
noncomputable def rd2 : Rd (VO s2) (Xs x2) := fun v k kx => match v with
  | ((i5, _), ((c0x0, c0x4, c0x5, c0x6, c0x7, _), r1, r2, r3, _)) => R2 i5 c0x0 c0x4 c0x5 c0x6 c0x7 r1 r2 r3 k kx
noncomputable def F2 (i5 : Int) (c0x0 : (List Int)) (c0x4 : Int) (c0x5 : Bool) (c0x6 : Int) (c0x7 : Int) (r1 : List Int) (r2 : List Int) (r3 : List Bool) : Option X2 := finOf rd2 ((i5, ()), ((c0x0, c0x4, c0x5, c0x6, c0x7, ()), r1, r2, r3, ()))
theorem F2_inv {c0x0 : (List Int)} {c0x4 : Int} {c0x5 : Bool} {c0x6 : Int} {c0x7 : Int} {r1 : List Int} {r2 : List Int} {r3 : List Bool} (I : Int → Prop) (μ : Int → Nat) (Q : X2 → Prop) (h : ∀ (i5 : Int), I i5 → Led (fun (R : Type) (k : V2 → Option R) (kx : X2 → Option R) => R2 i5 c0x0 c0x4 c0x5 c0x6 c0x7 r1 r2 r3 k kx) (fun v => ∃ (i5' : Int), v = ((i5', ()), ((c0x0, c0x4, c0x5, c0x6, c0x7, ()), r1, r2, r3, ())) ∧ I i5' ∧ μ i5' < μ i5) Q) : ∀ (i5 : Int), I i5 → ∃ z, F2 i5 c0x0 c0x4 c0x5 c0x6 c0x7 r1 r2 r3 = some z ∧ Q z := fun i5 hi => by
  refine finOf_inv (V := V2) (X := X2) (rd := rd2) (fun v => ∃ (i5' : Int), v = ((i5', ()), ((c0x0, c0x4, c0x5, c0x6, c0x7, ()), r1, r2, r3, ())) ∧ I i5') (fun v => match v with
    | ((i5, _), ((c0x0, c0x4, c0x5, c0x6, c0x7, _), r1, r2, r3, _)) => μ i5) Q (fun v hv => ?_) ((i5, ()), ((c0x0, c0x4, c0x5, c0x6, c0x7, ()), r1, r2, r3, ())) ⟨i5, rfl, hi⟩
  obtain ⟨i5, rfl, hi⟩ := hv
  refine led_mono (h i5 hi) ?_ (fun _ q => q)
  rintro v ⟨i5', rfl, h1, h2⟩
  exact ⟨⟨i5', rfl, h1⟩, h2⟩
noncomputable def L2 : Lp := ⟨2, ⟨[(0, none), (5, none)]⟩, s2, x2, fun v => match v with
  | ((i5, _), ((c0x0, c0x4, c0x5, c0x6, c0x7, _), r1, r2, r3, _)) => F2 i5 c0x0 c0x4 c0x5 c0x6 c0x7 r1 r2 r3⟩
theorem ends2 : Ends L2 rd2 := ends_fin (fun v => by
  obtain ⟨⟨i5, _⟩, ⟨⟨c0x0, c0x4, c0x5, c0x6, c0x7, _⟩, r1, r2, r3, _⟩⟩ := v
  rfl)
noncomputable def env : Env := mkEnv tabD [] 4 [] [L2]
theorem round2 : RoundIs env (sub [true, false, true, false, false] code) L2 rd2 := fun R v k kx => by kernel_rfl
abbrev D : Type := (((List Int) × ((List Int) × ((List Int) × ((List Bool) × (Int × (Bool × (Int × (Int × Bool)))))))) × Int × Unit)
noncomputable def run' (e0_0 : (List Int)) (e0_1 : (List Int)) (e0_2 : (List Int)) (e0_3 : (List Bool)) (e0_4 : Int) (e0_5 : Bool) (e0_6 : Int) (e0_7 : Int) (from1 : Int) : Option D := (match F2 (from1) (e0_0) (e0_4) (e0_5) (e0_6) (e0_7) (e0_1) (e0_2) (e0_3) with
  | some (Sum.inl <| ((t4_1, _), ((c0x0_1, c0x4_1, c0x5_1, c0x6_1, c0x7_1, _), r1_1, r2_1, r3_1, _))) => some ((c0x0_1, r1_1, r2_1, r3_1, c0x4_1, c0x5_1, c0x6_1, c0x7_1, Bool.false), t4_1, ())
  | some (Sum.inr <| (_, ((c0x0_2, c0x4_2, c0x5_2, c0x6_2, c0x7_2, _), r1_2, r2_2, r3_2, _))) => some ((c0x0_2, r1_2, r2_2, r3_2, c0x4_2, c0x5_2, c0x6_2, c0x7_2, Bool.false), (-1 : Int), ())
  | none => none)
noncomputable def run (d : Ds (List.map PM.ty ps)) : Option (Ds (muts ps ++ List.map PM.ty rs)) := match d with
  | ((e0_0, e0_1, e0_2, e0_3, e0_4, e0_5, e0_6, e0_7, _), from1, _) => run' e0_0 e0_1 e0_2 e0_3 e0_4 e0_5 e0_6 e0_7 from1
theorem run_is : ∀ d, runF env 24 code [4] ps rs d = run d := fun d => by kernel_rfl
theorem loops : LoopsOk env code := loopsOk_of (l := [[true, false, true, false, false]]) (by kernel_rfl) (fun p hp => by
  simp only [List.mem_cons, List.not_mem_nil, or_false] at hp
  rcases hp with rfl
  · exact loopOk_lp (L := L2) (x := sub [true, false, true, false, false] code) (by kernel_rfl) (by simp [L2]) round2 ends2
  )
noncomputable def pre (e0_0 : (List Int)) (e0_1 : (List Int)) (e0_2 : (List Int)) (e0_3 : (List Bool)) (e0_4 : Int) (e0_5 : Bool) (e0_6 : Int) (e0_7 : Int) (from1 : Int) : Bool := (run' e0_0 e0_1 e0_2 e0_3 e0_4 e0_5 e0_6 e0_7 from1).isSome
noncomputable def fn (e0_0 : (List Int)) (e0_1 : (List Int)) (e0_2 : (List Int)) (e0_3 : (List Bool)) (e0_4 : Int) (e0_5 : Bool) (e0_6 : Int) (e0_7 : Int) (from1 : Int) : D := match run' e0_0 e0_1 e0_2 e0_3 e0_4 e0_5 e0_6 e0_7 from1 with
  | some x => x
  | none => default
noncomputable def sig : Sig := ⟨ps, rs, fun d => match d with
  | ((e0_0, e0_1, e0_2, e0_3, e0_4, e0_5, e0_6, e0_7, _), from1, _) => pre e0_0 e0_1 e0_2 e0_3 e0_4 e0_5 e0_6 e0_7 from1, fun d => match d with
  | ((e0_0, e0_1, e0_2, e0_3, e0_4, e0_5, e0_6, e0_7, _), from1, _) => fn e0_0 e0_1 e0_2 e0_3 e0_4 e0_5 e0_6 e0_7 from1, false⟩
theorem run_fn (e0_0 : (List Int)) (e0_1 : (List Int)) (e0_2 : (List Int)) (e0_3 : (List Bool)) (e0_4 : Int) (e0_5 : Bool) (e0_6 : Int) (e0_7 : Int) (from1 : Int) (h : pre e0_0 e0_1 e0_2 e0_3 e0_4 e0_5 e0_6 e0_7 from1 = true) : run' e0_0 e0_1 e0_2 e0_3 e0_4 e0_5 e0_6 e0_7 from1 = some (fn e0_0 e0_1 e0_2 e0_3 e0_4 e0_5 e0_6 e0_7 from1) := by
  unfold pre at h
  unfold fn
  cases e : run' e0_0 e0_1 e0_2 e0_3 e0_4 e0_5 e0_6 e0_7 from1 with
  | some x => rfl
  | none => rw [e] at h; cases h
theorem is_fn (e0_0 : (List Int)) (e0_1 : (List Int)) (e0_2 : (List Int)) (e0_3 : (List Bool)) (e0_4 : Int) (e0_5 : Bool) (e0_6 : Int) (e0_7 : Int) (from1 : Int) {x : D} (h : run' e0_0 e0_1 e0_2 e0_3 e0_4 e0_5 e0_6 e0_7 from1 = some x) : pre e0_0 e0_1 e0_2 e0_3 e0_4 e0_5 e0_6 e0_7 from1 = true ∧ fn e0_0 e0_1 e0_2 e0_3 e0_4 e0_5 e0_6 e0_7 from1 = x := by
  unfold pre fn
  rw [h]
  exact ⟨rfl, rfl⟩
theorem sound {ρ : Obs} (hE : EnvOk Go.Proofs.Tryd.prog ρ env) : Sound Go.Proofs.Tryd.prog ρ 67 sig := sound_of (fn := Go.Proofs.Tryd.f67) (c := code) (res := [4]) hE (by kernel_rfl) (by kernel_rfl) (by kernel_rfl) (by kernel_rfl) (by kernel_rfl) loops rfl (show 2 ≤ 24 by decide) (fun d hd => (run_is d).trans (by
  obtain ⟨⟨e0_0, e0_1, e0_2, e0_3, e0_4, e0_5, e0_6, e0_7, _⟩, from1, _⟩ := d
  exact run_fn e0_0 e0_1 e0_2 e0_3 e0_4 e0_5 e0_6 e0_7 from1 hd))
theorem enters : Enters Go.Proofs.Tryd.prog 67 := enters_of (fn := Go.Proofs.Tryd.f67) (by kernel_rfl) (by kernel_rfl) (by kernel_rfl)
theorem ok {ρ : Obs} (h : ∀ p ∈ ([] : List (FuncId × Sig)), Enters Go.Proofs.Tryd.prog p.1 ∧ Sound Go.Proofs.Tryd.prog ρ p.1 p.2) : Enters Go.Proofs.Tryd.prog 67 ∧ Sound Go.Proofs.Tryd.prog ρ 67 sig := ⟨enters, sound (envOk_of tabDOk h)⟩
theorem okR : Enters Go.Proofs.Tryd.prog 67 ∧ Sound Go.Proofs.Tryd.prog rho 67 sig := ok (fun p hp => by
  cases hp)
end dirtyR
namespace DoneR
abbrev ps : List PM := [.bx 107 [.v (.list I64), .r 3 I64 false, .r 3 I64 false, .r 4 .bool false, .v I64, .v .bool, .v I64, .v I64]]
abbrev rs : List PM := [.val .bool]
noncomputable abbrev code : Code := (Go.Proofs.Tryd.f49.body.getD .skip)
noncomputable def env : Env := mkEnv tabD [(67, dirtyR.sig)] 4 [] []
abbrev D : Type := (((List Int) × ((List Int) × ((List Int) × ((List Bool) × (Int × (Bool × (Int × (Int × Bool)))))))) × Bool × Unit)
noncomputable def run' (e0_0 : (List Int)) (e0_1 : (List Int)) (e0_2 : (List Int)) (e0_3 : (List Bool)) (e0_4 : Int) (e0_5 : Bool) (e0_6 : Int) (e0_7 : Int) : Option D := (if (!e0_5) = Bool.true then (if dirtyR.pre e0_0 e0_1 e0_2 e0_3 e0_4 e0_5 e0_6 e0_7 (0 : Int) = Bool.true then (letZ (dirtyR.fn e0_0 e0_1 e0_2 e0_3 e0_4 e0_5 e0_6 e0_7 (0 : Int)) fun z_ =>
 some ((z_.1.1, z_.1.2.1, z_.1.2.2.1, z_.1.2.2.2.1, z_.1.2.2.2.2.1, z_.1.2.2.2.2.2.1, z_.1.2.2.2.2.2.2.1, z_.1.2.2.2.2.2.2.2.1, Bool.false), Decidable.decide (z_.2.1 < (0 : Int)), ()))
 else none)
 else some ((e0_0, e0_1, e0_2, e0_3, e0_4, e0_5, e0_6, e0_7, Bool.false), Bool.false, ()))
noncomputable def run (d : Ds (List.map PM.ty ps)) : Option (Ds (muts ps ++ List.map PM.ty rs)) := match d with
  | ((e0_0, e0_1, e0_2, e0_3, e0_4, e0_5, e0_6, e0_7, _), _) => run' e0_0 e0_1 e0_2 e0_3 e0_4 e0_5 e0_6 e0_7
theorem run_is : ∀ d, runF env 13 code [2] ps rs d = run d := fun d => by kernel_rfl
theorem loops : LoopsOk env code := loopsOk_of (l := []) (by kernel_rfl) (fun p hp => by
  cases hp)
noncomputable def pre (e0_0 : (List Int)) (e0_1 : (List Int)) (e0_2 : (List Int)) (e0_3 : (List Bool)) (e0_4 : Int) (e0_5 : Bool) (e0_6 : Int) (e0_7 : Int) : Bool := (run' e0_0 e0_1 e0_2 e0_3 e0_4 e0_5 e0_6 e0_7).isSome
noncomputable def fn (e0_0 : (List Int)) (e0_1 : (List Int)) (e0_2 : (List Int)) (e0_3 : (List Bool)) (e0_4 : Int) (e0_5 : Bool) (e0_6 : Int) (e0_7 : Int) : D := match run' e0_0 e0_1 e0_2 e0_3 e0_4 e0_5 e0_6 e0_7 with
  | some x => x
  | none => default
noncomputable def sig : Sig := ⟨ps, rs, fun d => match d with
  | ((e0_0, e0_1, e0_2, e0_3, e0_4, e0_5, e0_6, e0_7, _), _) => pre e0_0 e0_1 e0_2 e0_3 e0_4 e0_5 e0_6 e0_7, fun d => match d with
  | ((e0_0, e0_1, e0_2, e0_3, e0_4, e0_5, e0_6, e0_7, _), _) => fn e0_0 e0_1 e0_2 e0_3 e0_4 e0_5 e0_6 e0_7, false⟩
theorem run_fn (e0_0 : (List Int)) (e0_1 : (List Int)) (e0_2 : (List Int)) (e0_3 : (List Bool)) (e0_4 : Int) (e0_5 : Bool) (e0_6 : Int) (e0_7 : Int) (h : pre e0_0 e0_1 e0_2 e0_3 e0_4 e0_5 e0_6 e0_7 = true) : run' e0_0 e0_1 e0_2 e0_3 e0_4 e0_5 e0_6 e0_7 = some (fn e0_0 e0_1 e0_2 e0_3 e0_4 e0_5 e0_6 e0_7) := by
  unfold pre at h
  unfold fn
  cases e : run' e0_0 e0_1 e0_2 e0_3 e0_4 e0_5 e0_6 e0_7 with
  | some x => rfl
  | none => rw [e] at h; cases h
theorem is_fn (e0_0 : (List Int)) (e0_1 : (List Int)) (e0_2 : (List Int)) (e0_3 : (List Bool)) (e0_4 : Int) (e0_5 : Bool) (e0_6 : Int) (e0_7 : Int) {x : D} (h : run' e0_0 e0_1 e0_2 e0_3 e0_4 e0_5 e0_6 e0_7 = some x) : pre e0_0 e0_1 e0_2 e0_3 e0_4 e0_5 e0_6 e0_7 = true ∧ fn e0_0 e0_1 e0_2 e0_3 e0_4 e0_5 e0_6 e0_7 = x := by
  unfold pre fn
  rw [h]
  exact ⟨rfl, rfl⟩
theorem sound {ρ : Obs} (hE : EnvOk Go.Proofs.Tryd.prog ρ env) : Sound Go.Proofs.Tryd.prog ρ 49 sig := sound_of (fn := Go.Proofs.Tryd.f49) (c := code) (res := [2]) hE (by kernel_rfl) (by kernel_rfl) (by kernel_rfl) (by kernel_rfl) (by kernel_rfl) loops rfl (show 1 ≤ 13 by decide) (fun d hd => (run_is d).trans (by
  obtain ⟨⟨e0_0, e0_1, e0_2, e0_3, e0_4, e0_5, e0_6, e0_7, _⟩, _⟩ := d
  exact run_fn e0_0 e0_1 e0_2 e0_3 e0_4 e0_5 e0_6 e0_7 hd))
theorem enters : Enters Go.Proofs.Tryd.prog 49 := enters_of (fn := Go.Proofs.Tryd.f49) (by kernel_rfl) (by kernel_rfl) (by kernel_rfl)
theorem ok {ρ : Obs} (h : ∀ p ∈ ([(67, dirtyR.sig)] : List (FuncId × Sig)), Enters Go.Proofs.Tryd.prog p.1 ∧ Sound Go.Proofs.Tryd.prog ρ p.1 p.2) : Enters Go.Proofs.Tryd.prog 49 ∧ Sound Go.Proofs.Tryd.prog ρ 49 sig := ⟨enters, sound (envOk_of tabDOk h)⟩
theorem okR : Enters Go.Proofs.Tryd.prog 49 ∧ Sound Go.Proofs.Tryd.prog rho 49 sig := ok (fun p hp => by
  simp only [List.mem_cons, List.not_mem_nil, or_false] at hp
  rcases hp with rfl
  · exact dirtyR.okR)
end DoneR
namespace PassesR
abbrev ps : List PM := [.bx 107 [.v (.list I64), .r 3 I64 false, .r 3 I64 false, .r 4 .bool false, .v I64, .v .bool, .v I64, .v I64]]
abbrev rs : List PM := [.val I64]
noncomputable abbrev code : Code := (Go.Proofs.Tryd.f50.body.getD .skip)
noncomputable def env : Env := mkEnv tabD [] 4 [] []
abbrev D : Type := (((List Int) × ((List Int) × ((List Int) × ((List Bool) × (Int × (Bool × (Int × (Int × Bool)))))))) × Int × Unit)
noncomputable def run' (e0_0 : (List Int)) (e0_1 : (List Int)) (e0_2 : (List Int)) (e0_3 : (List Bool)) (e0_4 : Int) (e0_5 : Bool) (e0_6 : Int) (e0_7 : Int) : Option D := some ((e0_0, e0_1, e0_2, e0_3, e0_4, e0_5, e0_6, e0_7, Bool.false), e0_4, ())
noncomputable def run (d : Ds (List.map PM.ty ps)) : Option (Ds (muts ps ++ List.map PM.ty rs)) := match d with
  | ((e0_0, e0_1, e0_2, e0_3, e0_4, e0_5, e0_6, e0_7, _), _) => run' e0_0 e0_1 e0_2 e0_3 e0_4 e0_5 e0_6 e0_7
theorem run_is : ∀ d, runF env 7 code [2] ps rs d = run d := fun d => by kernel_rfl
theorem loops : LoopsOk env code := loopsOk_of (l := []) (by kernel_rfl) (fun p hp => by
  cases hp)
noncomputable def pre (e0_0 : (List Int)) (e0_1 : (List Int)) (e0_2 : (List Int)) (e0_3 : (List Bool)) (e0_4 : Int) (e0_5 : Bool) (e0_6 : Int) (e0_7 : Int) : Bool := (run' e0_0 e0_1 e0_2 e0_3 e0_4 e0_5 e0_6 e0_7).isSome
noncomputable def fn (e0_0 : (List Int)) (e0_1 : (List Int)) (e0_2 : (List Int)) (e0_3 : (List Bool)) (e0_4 : Int) (e0_5 : Bool) (e0_6 : Int) (e0_7 : Int) : D := match run' e0_0 e0_1 e0_2 e0_3 e0_4 e0_5 e0_6 e0_7 with
  | some x => x
  | none => default
noncomputable def sig : Sig := ⟨ps, rs, fun d => match d with
  | ((e0_0, e0_1, e0_2, e0_3, e0_4, e0_5, e0_6, e0_7, _), _) => pre e0_0 e0_1 e0_2 e0_3 e0_4 e0_5 e0_6 e0_7, fun d => match d with
  | ((e0_0, e0_1, e0_2, e0_3, e0_4, e0_5, e0_6, e0_7, _), _) => fn e0_0 e0_1 e0_2 e0_3 e0_4 e0_5 e0_6 e0_7, false⟩
theorem run_fn (e0_0 : (List Int)) (e0_1 : (List Int)) (e0_2 : (List Int)) (e0_3 : (List Bool)) (e0_4 : Int) (e0_5 : Bool) (e0_6 : Int) (e0_7 : Int) (h : pre e0_0 e0_1 e0_2 e0_3 e0_4 e0_5 e0_6 e0_7 = true) : run' e0_0 e0_1 e0_2 e0_3 e0_4 e0_5 e0_6 e0_7 = some (fn e0_0 e0_1 e0_2 e0_3 e0_4 e0_5 e0_6 e0_7) := by
  unfold pre at h
  unfold fn
  cases e : run' e0_0 e0_1 e0_2 e0_3 e0_4 e0_5 e0_6 e0_7 with
  | some x => rfl
  | none => rw [e] at h; cases h
theorem is_fn (e0_0 : (List Int)) (e0_1 : (List Int)) (e0_2 : (List Int)) (e0_3 : (List Bool)) (e0_4 : Int) (e0_5 : Bool) (e0_6 : Int) (e0_7 : Int) {x : D} (h : run' e0_0 e0_1 e0_2 e0_3 e0_4 e0_5 e0_6 e0_7 = some x) : pre e0_0 e0_1 e0_2 e0_3 e0_4 e0_5 e0_6 e0_7 = true ∧ fn e0_0 e0_1 e0_2 e0_3 e0_4 e0_5 e0_6 e0_7 = x := by
  unfold pre fn
  rw [h]
  exact ⟨rfl, rfl⟩
theorem sound {ρ : Obs} (hE : EnvOk Go.Proofs.Tryd.prog ρ env) : Sound Go.Proofs.Tryd.prog ρ 50 sig := sound_of (fn := Go.Proofs.Tryd.f50) (c := code) (res := [2]) hE (by kernel_rfl) (by kernel_rfl) (by kernel_rfl) (by kernel_rfl) (by kernel_rfl) loops rfl (show 1 ≤ 7 by decide) (fun d hd => (run_is d).trans (by
  obtain ⟨⟨e0_0, e0_1, e0_2, e0_3, e0_4, e0_5, e0_6, e0_7, _⟩, _⟩ := d
  exact run_fn e0_0 e0_1 e0_2 e0_3 e0_4 e0_5 e0_6 e0_7 hd))
theorem enters : Enters Go.Proofs.Tryd.prog 50 := enters_of (fn := Go.Proofs.Tryd.f50) (by kernel_rfl) (by kernel_rfl) (by kernel_rfl)
theorem ok {ρ : Obs} (h : ∀ p ∈ ([] : List (FuncId × Sig)), Enters Go.Proofs.Tryd.prog p.1 ∧ Sound Go.Proofs.Tryd.prog ρ p.1 p.2) : Enters Go.Proofs.Tryd.prog 50 ∧ Sound Go.Proofs.Tryd.prog ρ 50 sig := ⟨enters, sound (envOk_of tabDOk h)⟩
theorem okR : Enters Go.Proofs.Tryd.prog 50 ∧ Sound Go.Proofs.Tryd.prog rho 50 sig := ok (fun p hp => by
  cases hp)
end PassesR
namespace BoundsR
abbrev ps : List PM := [.bx 107 [.v (.list I64), .r 3 I64 false, .r 3 I64 false, .r 4 .bool false, .v I64, .v .bool, .v I64, .v I64]]
abbrev rs : List PM := [.own 3 I64]
noncomputable abbrev code : Code := (Go.Proofs.Tryd.f46.body.getD .skip)
noncomputable def env : Env := mkEnv tabD [(24, IntsO.sig)] 4 [] []
abbrev D : Type := (((List Int) × ((List Int) × ((List Int) × ((List Bool) × (Int × (Bool × (Int × (Int × Bool)))))))) × (List Int) × Unit)
noncomputable def run' (e0_0 : (List Int)) (e0_1 : (List Int)) (e0_2 : (List Int)) (e0_3 : (List Bool)) (e0_4 : Int) (e0_5 : Bool) (e0_6 : Int) (e0_7 : Int) : Option D := (if IntsO.pre e0_2 = Bool.true then some ((e0_0, e0_1, e0_2, e0_3, e0_4, e0_5, e0_6, e0_7, Bool.false), (IntsO.fn e0_2).1, ())
 else none)
noncomputable def run (d : Ds (List.map PM.ty ps)) : Option (Ds (muts ps ++ List.map PM.ty rs)) := match d with
  | ((e0_0, e0_1, e0_2, e0_3, e0_4, e0_5, e0_6, e0_7, _), _) => run' e0_0 e0_1 e0_2 e0_3 e0_4 e0_5 e0_6 e0_7
theorem run_is : ∀ d, runF env 8 code [2] ps rs d = run d := fun d => by kernel_rfl
theorem loops : LoopsOk env code := loopsOk_of (l := []) (by kernel_rfl) (fun p hp => by
  cases hp)
noncomputable def pre (e0_0 : (List Int)) (e0_1 : (List Int)) (e0_2 : (List Int)) (e0_3 : (List Bool)) (e0_4 : Int) (e0_5 : Bool) (e0_6 : Int) (e0_7 : Int) : Bool := (run' e0_0 e0_1 e0_2 e0_3 e0_4 e0_5 e0_6 e0_7).isSome
noncomputable def fn (e0_0 : (List Int)) (e0_1 : (List Int)) (e0_2 : (List Int)) (e0_3 : (List Bool)) (e0_4 : Int) (e0_5 : Bool) (e0_6 : Int) (e0_7 : Int) : D := match run' e0_0 e0_1 e0_2 e0_3 e0_4 e0_5 e0_6 e0_7 with
  | some x => x
  | none => default
noncomputable def sig : Sig := ⟨ps, rs, fun d => match d with
  | ((e0_0, e0_1, e0_2, e0_3, e0_4, e0_5, e0_6, e0_7, _), _) => pre e0_0 e0_1 e0_2 e0_3 e0_4 e0_5 e0_6 e0_7, fun d => match d with
  | ((e0_0, e0_1, e0_2, e0_3, e0_4, e0_5, e0_6, e0_7, _), _) => fn e0_0 e0_1 e0_2 e0_3 e0_4 e0_5 e0_6 e0_7, false⟩
theorem run_fn (e0_0 : (List Int)) (e0_1 : (List Int)) (e0_2 : (List Int)) (e0_3 : (List Bool)) (e0_4 : Int) (e0_5 : Bool) (e0_6 : Int) (e0_7 : Int) (h : pre e0_0 e0_1 e0_2 e0_3 e0_4 e0_5 e0_6 e0_7 = true) : run' e0_0 e0_1 e0_2 e0_3 e0_4 e0_5 e0_6 e0_7 = some (fn e0_0 e0_1 e0_2 e0_3 e0_4 e0_5 e0_6 e0_7) := by
  unfold pre at h
  unfold fn
  cases e : run' e0_0 e0_1 e0_2 e0_3 e0_4 e0_5 e0_6 e0_7 with
  | some x => rfl
  | none => rw [e] at h; cases h
theorem is_fn (e0_0 : (List Int)) (e0_1 : (List Int)) (e0_2 : (List Int)) (e0_3 : (List Bool)) (e0_4 : Int) (e0_5 : Bool) (e0_6 : Int) (e0_7 : Int) {x : D} (h : run' e0_0 e0_1 e0_2 e0_3 e0_4 e0_5 e0_6 e0_7 = some x) : pre e0_0 e0_1 e0_2 e0_3 e0_4 e0_5 e0_6 e0_7 = true ∧ fn e0_0 e0_1 e0_2 e0_3 e0_4 e0_5 e0_6 e0_7 = x := by
  unfold pre fn
  rw [h]
  exact ⟨rfl, rfl⟩
theorem sound {ρ : Obs} (hE : EnvOk Go.Proofs.Tryd.prog ρ env) : Sound Go.Proofs.Tryd.prog ρ 46 sig := sound_of (fn := Go.Proofs.Tryd.f46) (c := code) (res := [2]) hE (by kernel_rfl) (by kernel_rfl) (by kernel_rfl) (by kernel_rfl) (by kernel_rfl) loops rfl (show 1 ≤ 8 by decide) (fun d hd => (run_is d).trans (by
  obtain ⟨⟨e0_0, e0_1, e0_2, e0_3, e0_4, e0_5, e0_6, e0_7, _⟩, _⟩ := d
  exact run_fn e0_0 e0_1 e0_2 e0_3 e0_4 e0_5 e0_6 e0_7 hd))
theorem enters : Enters Go.Proofs.Tryd.prog 46 := enters_of (fn := Go.Proofs.Tryd.f46) (by kernel_rfl) (by kernel_rfl) (by kernel_rfl)
theorem ok {ρ : Obs} (h : ∀ p ∈ ([(24, IntsO.sig)] : List (FuncId × Sig)), Enters Go.Proofs.Tryd.prog p.1 ∧ Sound Go.Proofs.Tryd.prog ρ p.1 p.2) : Enters Go.Proofs.Tryd.prog 46 ∧ Sound Go.Proofs.Tryd.prog ρ 46 sig := ⟨enters, sound (envOk_of tabDOk h)⟩
theorem okR : Enters Go.Proofs.Tryd.prog 46 ∧ Sound Go.Proofs.Tryd.prog rho 46 sig := ok (fun p hp => by
  simp only [List.mem_cons, List.not_mem_nil, or_false] at hp
  rcases hp with rfl
  · exact IntsO.okR)
end BoundsR
namespace DirtyR
abbrev ps : List PM := [.bx 107 [.v (.list I64), .r 3 I64 false, .r 3 I64 false, .r 4 .bool false, .v I64, .v .bool, .v I64, .v I64]]
abbrev rs : List PM := [.own 4 .bool]
noncomputable abbrev code : Code := (Go.Proofs.Tryd.f47.body.getD .skip)
noncomputable def env : Env := mkEnv tabD [(42, BoolsO.sig)] 4 [] []
abbrev D : Type := (((List Int) × ((List Int) × ((List Int) × ((List Bool) × (Int × (Bool × (Int × (Int × Bool)))))))) × (List Bool) × Unit)
noncomputable def run' (e0_0 : (List Int)) (e0_1 : (List Int)) (e0_2 : (List Int)) (e0_3 : (List Bool)) (e0_4 : Int) (e0_5 : Bool) (e0_6 : Int) (e0_7 : Int) : Option D := (if BoolsO.pre e0_3 = Bool.true then some ((e0_0, e0_1, e0_2, e0_3, e0_4, e0_5, e0_6, e0_7, Bool.false), (BoolsO.fn e0_3).1, ())
 else none)
noncomputable def run (d : Ds (List.map PM.ty ps)) : Option (Ds (muts ps ++ List.map PM.ty rs)) := match d with
  | ((e0_0, e0_1, e0_2, e0_3, e0_4, e0_5, e0_6, e0_7, _), _) => run' e0_0 e0_1 e0_2 e0_3 e0_4 e0_5 e0_6 e0_7
theorem run_is : ∀ d, runF env 8 code [2] ps rs d = run d := fun d => by kernel_rfl
theorem loops : LoopsOk env code := loopsOk_of (l := []) (by kernel_rfl) (fun p hp => by
  cases hp)
noncomputable def pre (e0_0 : (List Int)) (e0_1 : (List Int)) (e0_2 : (List Int)) (e0_3 : (List Bool)) (e0_4 : Int) (e0_5 : Bool) (e0_6 : Int) (e0_7 : Int) : Bool := (run' e0_0 e0_1 e0_2 e0_3 e0_4 e0_5 e0_6 e0_7).isSome
noncomputable def fn (e0_0 : (List Int)) (e0_1 : (List Int)) (e0_2 : (List Int)) (e0_3 : (List Bool)) (e0_4 : Int) (e0_5 : Bool) (e0_6 : Int) (e0_7 : Int) : D := match run' e0_0 e0_1 e0_2 e0_3 e0_4 e0_5 e0_6 e0_7 with
  | some x => x
  | none => default
noncomputable def sig : Sig := ⟨ps, rs, fun d => match d with
  | ((e0_0, e0_1, e0_2, e0_3, e0_4, e0_5, e0_6, e0_7, _), _) => pre e0_0 e0_1 e0_2 e0_3 e0_4 e0_5 e0_6 e0_7, fun d => match d with
  | ((e0_0, e0_1, e0_2, e0_3, e0_4, e0_5, e0_6, e0_7, _), _) => fn e0_0 e0_1 e0_2 e0_3 e0_4 e0_5 e0_6 e0_7, false⟩
theorem run_fn (e0_0 : (List Int)) (e0_1 : (List Int)) (e0_2 : (List Int)) (e0_3 : (List Bool)) (e0_4 : Int) (e0_5 : Bool) (e0_6 : Int) (e0_7 : Int) (h : pre e0_0 e0_1 e0_2 e0_3 e0_4 e0_5 e0_6 e0_7 = true) : run' e0_0 e0_1 e0_2 e0_3 e0_4 e0_5 e0_6 e0_7 = some (fn e0_0 e0_1 e0_2 e0_3 e0_4 e0_5 e0_6 e0_7) := by
  unfold pre at h
  unfold fn
  cases e : run' e0_0 e0_1 e0_2 e0_3 e0_4 e0_5 e0_6 e0_7 with
  | some x => rfl
  | none => rw [e] at h; cases h
theorem is_fn (e0_0 : (List Int)) (e0_1 : (List Int)) (e0_2 : (List Int)) (e0_3 : (List Bool)) (e0_4 : Int) (e0_5 : Bool) (e0_6 : Int) (e0_7 : Int) {x : D} (h : run' e0_0 e0_1 e0_2 e0_3 e0_4 e0_5 e0_6 e0_7 = some x) : pre e0_0 e0_1 e0_2 e0_3 e0_4 e0_5 e0_6 e0_7 = true ∧ fn e0_0 e0_1 e0_2 e0_3 e0_4 e0_5 e0_6 e0_7 = x := by
  unfold pre fn
  rw [h]
  exact ⟨rfl, rfl⟩
theorem sound {ρ : Obs} (hE : EnvOk Go.Proofs.Tryd.prog ρ env) : Sound Go.Proofs.Tryd.prog ρ 47 sig := sound_of (fn := Go.Proofs.Tryd.f47) (c := code) (res := [2]) hE (by kernel_rfl) (by kernel_rfl) (by kernel_rfl) (by kernel_rfl) (by kernel_rfl) loops rfl (show 1 ≤ 8 by decide) (fun d hd => (run_is d).trans (by
  obtain ⟨⟨e0_0, e0_1, e0_2, e0_3, e0_4, e0_5, e0_6, e0_7, _⟩, _⟩ := d
  exact run_fn e0_0 e0_1 e0_2 e0_3 e0_4 e0_5 e0_6 e0_7 hd))
theorem enters : Enters Go.Proofs.Tryd.prog 47 := enters_of (fn := Go.Proofs.Tryd.f47) (by kernel_rfl) (by kernel_rfl) (by kernel_rfl)
theorem ok {ρ : Obs} (h : ∀ p ∈ ([(42, BoolsO.sig)] : List (FuncId × Sig)), Enters Go.Proofs.Tryd.prog p.1 ∧ Sound Go.Proofs.Tryd.prog ρ p.1 p.2) : Enters Go.Proofs.Tryd.prog 47 ∧ Sound Go.Proofs.Tryd.prog ρ 47 sig := ⟨enters, sound (envOk_of tabDOk h)⟩
theorem okR : Enters Go.Proofs.Tryd.prog 47 ∧ Sound Go.Proofs.Tryd.prog rho 47 sig := ok (fun p hp => by
  simp only [List.mem_cons, List.not_mem_nil, or_false] at hp
  rcases hp with rfl
  · exact BoolsO.okR)
end DirtyR
namespace CheckRf
abbrev ps : List PM := [.bx 107 [.v (.list I64), .r 3 I64 false, .r 3 I64 false, .r 4 .bool false, .v I64, .v .bool, .v I64, .v I64]]
abbrev rs : List PM := [.val Ck, .val I64]
noncomputable abbrev code : Code := (Go.Proofs.Tryd.f48.body.getD .skip)
noncomputable def env : Env := mkEnv tabD [(24, IntsO.sig), (42, BoolsO.sig)] 4 [(3, [0, 1, 2, 3, 4, 5, 6, 7, 9, 10, 11, 12, 8, 13, 14, 15, 16])] []
abbrev D : Type := (((List Int) × ((List Int) × ((List Int) × ((List Bool) × (Int × (Bool × (Int × (Int × Bool)))))))) × (Int × ((List Int) × (List Bool))) × Int × Unit)
noncomputable def run' (e0_0 : (List Int)) (e0_1 : (List Int)) (e0_2 : (List Int)) (e0_3 : (List Bool)) (e0_4 : Int) (e0_5 : Bool) (e0_6 : Int) (e0_7 : Int) : Option D := (if e0_5 = Bool.true then some ((e0_0, e0_1, e0_2, e0_3, e0_4, e0_5, e0_6, e0_7, Bool.false), ((0 : Int), [], []), (170 : Int), ())
 else (if IntsO.pre e0_2 = Bool.true then (if BoolsO.pre e0_3 = Bool.true then some ((e0_0, e0_1, e0_2, e0_3, e0_4, e0_5, e0_6, e0_7, Bool.false), (e0_4, (IntsO.fn e0_2).1, (BoolsO.fn e0_3).1), (0 : Int), ())
 else none)
 else none))
noncomputable def run (d : Ds (List.map PM.ty ps)) : Option (Ds (muts ps ++ List.map PM.ty rs)) := match d with
  | ((e0_0, e0_1, e0_2, e0_3, e0_4, e0_5, e0_6, e0_7, _), _) => run' e0_0 e0_1 e0_2 e0_3 e0_4 e0_5 e0_6 e0_7
theorem run_is : ∀ d, runF1 env 24 code 2 25 [3] ps rs d = run d := fun d => by kernel_rfl
theorem loops : LoopsOk env code := loopsOk_of (l := []) (by kernel_rfl) (fun p hp => by
  cases hp)
noncomputable def pre (e0_0 : (List Int)) (e0_1 : (List Int)) (e0_2 : (List Int)) (e0_3 : (List Bool)) (e0_4 : Int) (e0_5 : Bool) (e0_6 : Int) (e0_7 : Int) : Bool := (run' e0_0 e0_1 e0_2 e0_3 e0_4 e0_5 e0_6 e0_7).isSome
noncomputable def fn (e0_0 : (List Int)) (e0_1 : (List Int)) (e0_2 : (List Int)) (e0_3 : (List Bool)) (e0_4 : Int) (e0_5 : Bool) (e0_6 : Int) (e0_7 : Int) : D := match run' e0_0 e0_1 e0_2 e0_3 e0_4 e0_5 e0_6 e0_7 with
  | some x => x
  | none => default
noncomputable def sig : Sig := ⟨ps, rs, fun d => match d with
  | ((e0_0, e0_1, e0_2, e0_3, e0_4, e0_5, e0_6, e0_7, _), _) => pre e0_0 e0_1 e0_2 e0_3 e0_4 e0_5 e0_6 e0_7, fun d => match d with
  | ((e0_0, e0_1, e0_2, e0_3, e0_4, e0_5, e0_6, e0_7, _), _) => fn e0_0 e0_1 e0_2 e0_3 e0_4 e0_5 e0_6 e0_7, false⟩
theorem run_fn (e0_0 : (List Int)) (e0_1 : (List Int)) (e0_2 : (List Int)) (e0_3 : (List Bool)) (e0_4 : Int) (e0_5 : Bool) (e0_6 : Int) (e0_7 : Int) (h : pre e0_0 e0_1 e0_2 e0_3 e0_4 e0_5 e0_6 e0_7 = true) : run' e0_0 e0_1 e0_2 e0_3 e0_4 e0_5 e0_6 e0_7 = some (fn e0_0 e0_1 e0_2 e0_3 e0_4 e0_5 e0_6 e0_7) := by
  unfold pre at h
  unfold fn
  cases e : run' e0_0 e0_1 e0_2 e0_3 e0_4 e0_5 e0_6 e0_7 with
  | some x => rfl
  | none => rw [e] at h; cases h
theorem is_fn (e0_0 : (List Int)) (e0_1 : (List Int)) (e0_2 : (List Int)) (e0_3 : (List Bool)) (e0_4 : Int) (e0_5 : Bool) (e0_6 : Int) (e0_7 : Int) {x : D} (h : run' e0_0 e0_1 e0_2 e0_3 e0_4 e0_5 e0_6 e0_7 = some x) : pre e0_0 e0_1 e0_2 e0_3 e0_4 e0_5 e0_6 e0_7 = true ∧ fn e0_0 e0_1 e0_2 e0_3 e0_4 e0_5 e0_6 e0_7 = x := by
  unfold pre fn
  rw [h]
  exact ⟨rfl, rfl⟩
theorem sound {ρ : Obs} (hE : EnvOk Go.Proofs.Tryd.prog ρ env) : Sound Go.Proofs.Tryd.prog ρ 48 sig := sound_of1 (fn := Go.Proofs.Tryd.f48) (c := code) (a := 2) (tid := 25) (res := [3]) hE (by kernel_rfl) (by kernel_rfl) (by kernel_rfl) (by kernel_rfl) (by decide) (by kernel_rfl) loops rfl (show 1 ≤ 24 by decide) (fun d hd => (run_is d).trans (by
  obtain ⟨⟨e0_0, e0_1, e0_2, e0_3, e0_4, e0_5, e0_6, e0_7, _⟩, _⟩ := d
  exact run_fn e0_0 e0_1 e0_2 e0_3 e0_4 e0_5 e0_6 e0_7 hd))
theorem enters : Enters Go.Proofs.Tryd.prog 48 := enters_of (fn := Go.Proofs.Tryd.f48) (by kernel_rfl) (by kernel_rfl) (by kernel_rfl)
theorem ok {ρ : Obs} (h : ∀ p ∈ ([(24, IntsO.sig), (42, BoolsO.sig)] : List (FuncId × Sig)), Enters Go.Proofs.Tryd.prog p.1 ∧ Sound Go.Proofs.Tryd.prog ρ p.1 p.2) : Enters Go.Proofs.Tryd.prog 48 ∧ Sound Go.Proofs.Tryd.prog ρ 48 sig := ⟨enters, sound (envOk_of tabDOk h)⟩
theorem okR : Enters Go.Proofs.Tryd.prog 48 ∧ Sound Go.Proofs.Tryd.prog rho 48 sig := ok (fun p hp => by
  simp only [List.mem_cons, List.not_mem_nil, or_false] at hp
  rcases hp with rfl | rfl
  · exact IntsO.okR
  · exact BoolsO.okR)
end CheckRf
namespace SameCheck
abbrev ps : List PM := [.val Ck, .val Ck]
abbrev rs : List PM := [.val .bool]
noncomputable abbrev code : Code := (Go.Proofs.Tryd.f45.body.getD .skip)
noncomputable def env : Env := mkEnv tabD [(21, SameIntsH.sig), (36, SameBools.sig)] 0 [] []
abbrev D : Type := (Bool × Unit)
noncomputable def run' (a0 : (Int × ((List Int) × (List Bool)))) (b1 : (Int × ((List Int) × (List Bool)))) : Option D := (if SameIntsH.pre a0.2.1 b1.2.1 = Bool.true then (if SameBools.pre a0.2.2 b1.2.2 = Bool.true then (if (SameIntsH.fn a0.2.1 b1.2.1).1 = Bool.true then (if (SameBools.fn a0.2.2 b1.2.2).1 = Bool.true then some (a0.1 == b1.1, ())
 else some (Bool.false, ()))
 else some (Bool.false, ()))
 else none)
 else none)
noncomputable def run (d : Ds (List.map PM.ty ps)) : Option (Ds (muts ps ++ List.map PM.ty rs)) := match d with
  | (a0, b1, _) => run' a0 b1
theorem run_is : ∀ d, runF env 28 code [4] ps rs d = run d := fun d => by kernel_rfl
theorem loops : LoopsOk env code := loopsOk_of (l := []) (by kernel_rfl) (fun p hp => by
  cases hp)
noncomputable def pre (a0 : (Int × ((List Int) × (List Bool)))) (b1 : (Int × ((List Int) × (List Bool)))) : Bool := (run' a0 b1).isSome
noncomputable def fn (a0 : (Int × ((List Int) × (List Bool)))) (b1 : (Int × ((List Int) × (List Bool)))) : D := match run' a0 b1 with
  | some x => x
  | none => default
noncomputable def sig : Sig := ⟨ps, rs, fun d => match d with
  | (a0, b1, _) => pre a0 b1, fun d => match d with
  | (a0, b1, _) => fn a0 b1, false⟩
theorem run_fn (a0 : (Int × ((List Int) × (List Bool)))) (b1 : (Int × ((List Int) × (List Bool)))) (h : pre a0 b1 = true) : run' a0 b1 = some (fn a0 b1) := by
  unfold pre at h
  unfold fn
  cases e : run' a0 b1 with
  | some x => rfl
  | none => rw [e] at h; cases h
theorem is_fn (a0 : (Int × ((List Int) × (List Bool)))) (b1 : (Int × ((List Int) × (List Bool)))) {x : D} (h : run' a0 b1 = some x) : pre a0 b1 = true ∧ fn a0 b1 = x := by
  unfold pre fn
  rw [h]
  exact ⟨rfl, rfl⟩
theorem sound {ρ : Obs} (hE : EnvOk Go.Proofs.Tryd.prog ρ env) : Sound Go.Proofs.Tryd.prog ρ 45 sig := sound_of (fn := Go.Proofs.Tryd.f45) (c := code) (res := [4]) hE (by kernel_rfl) (by kernel_rfl) (by kernel_rfl) (by kernel_rfl) (by kernel_rfl) loops rfl (show 2 ≤ 28 by decide) (fun d hd => (run_is d).trans (by
  obtain ⟨a0, b1, _⟩ := d
  exact run_fn a0 b1 hd))
theorem enters : Enters Go.Proofs.Tryd.prog 45 := enters_of (fn := Go.Proofs.Tryd.f45) (by kernel_rfl) (by kernel_rfl) (by kernel_rfl)
theorem ok {ρ : Obs} (h : ∀ p ∈ ([(21, SameIntsH.sig), (36, SameBools.sig)] : List (FuncId × Sig)), Enters Go.Proofs.Tryd.prog p.1 ∧ Sound Go.Proofs.Tryd.prog ρ p.1 p.2) : Enters Go.Proofs.Tryd.prog 45 ∧ Sound Go.Proofs.Tryd.prog ρ 45 sig := ⟨enters, sound (envOk_of tabDOk h)⟩
theorem okR : Enters Go.Proofs.Tryd.prog 45 ∧ Sound Go.Proofs.Tryd.prog rho 45 sig := ok (fun p hp => by
  simp only [List.mem_cons, List.not_mem_nil, or_false] at hp
  rcases hp with rfl | rfl
  · exact SameIntsH.okR
  · exact SameBools.okR)
end SameCheck
namespace few
abbrev ps : List PM := [.val Sa]
abbrev rs : List PM := [.val .bool]
noncomputable abbrev code : Code := (Go.Proofs.Tryd.f10.body.getD .skip)
noncomputable def env : Env := mkEnv tabD [] 0 [] []
abbrev D : Type := (Bool × Unit)
noncomputable def run' (s0 : ((List Int) × ((List Int) × (Bool × (Int × ((List Int) × (List Bool))))))) : Option D := (if Decidable.decide ((↑(List.length s0.1) : Int) ≤ (400 : Int)) = Bool.true then (if Decidable.decide ((↑(List.length s0.2.1) : Int) ≤ (400 : Int)) = Bool.true then (if Decidable.decide ((↑(List.length s0.2.2.2.2.1) : Int) ≤ (400 : Int)) = Bool.true then some (Decidable.decide ((↑(List.length s0.2.2.2.2.2) : Int) ≤ (400 : Int)), ())
 else some (Bool.false, ()))
 else some (Bool.false, ()))
 else some (Bool.false, ()))
noncomputable def run (d : Ds (List.map PM.ty ps)) : Option (Ds (muts ps ++ List.map PM.ty rs)) := match d with
  | (s0, _) => run' s0
theorem run_is : ∀ d, runF env 27 code [2] ps rs d = run d := fun d => by kernel_rfl
theorem loops : LoopsOk env code := loopsOk_of (l := []) (by kernel_rfl) (fun p hp => by
  cases hp)
noncomputable def pre (s0 : ((List Int) × ((List Int) × (Bool × (Int × ((List Int) × (List Bool))))))) : Bool := (run' s0).isSome
noncomputable def fn (s0 : ((List Int) × ((List Int) × (Bool × (Int × ((List Int) × (List Bool))))))) : D := match run' s0 with
  | some x => x
  | none => default
noncomputable def sig : Sig := ⟨ps, rs, fun d => match d with
  | (s0, _) => pre s0, fun d => match d with
  | (s0, _) => fn s0, false⟩
theorem run_fn (s0 : ((List Int) × ((List Int) × (Bool × (Int × ((List Int) × (List Bool))))))) (h : pre s0 = true) : run' s0 = some (fn s0) := by
  unfold pre at h
  unfold fn
  cases e : run' s0 with
  | some x => rfl
  | none => rw [e] at h; cases h
theorem is_fn (s0 : ((List Int) × ((List Int) × (Bool × (Int × ((List Int) × (List Bool))))))) {x : D} (h : run' s0 = some x) : pre s0 = true ∧ fn s0 = x := by
  unfold pre fn
  rw [h]
  exact ⟨rfl, rfl⟩
theorem sound {ρ : Obs} (hE : EnvOk Go.Proofs.Tryd.prog ρ env) : Sound Go.Proofs.Tryd.prog ρ 10 sig := sound_of (fn := Go.Proofs.Tryd.f10) (c := code) (res := [2]) hE (by kernel_rfl) (by kernel_rfl) (by kernel_rfl) (by kernel_rfl) (by kernel_rfl) loops rfl (show 1 ≤ 27 by decide) (fun d hd => (run_is d).trans (by
  obtain ⟨s0, _⟩ := d
  exact run_fn s0 hd))
theorem enters : Enters Go.Proofs.Tryd.prog 10 := enters_of (fn := Go.Proofs.Tryd.f10) (by kernel_rfl) (by kernel_rfl) (by kernel_rfl)
theorem ok {ρ : Obs} (h : ∀ p ∈ ([] : List (FuncId × Sig)), Enters Go.Proofs.Tryd.prog p.1 ∧ Sound Go.Proofs.Tryd.prog ρ p.1 p.2) : Enters Go.Proofs.Tryd.prog 10 ∧ Sound Go.Proofs.Tryd.prog ρ 10 sig := ⟨enters, sound (envOk_of tabDOk h)⟩
theorem okR : Enters Go.Proofs.Tryd.prog 10 ∧ Sound Go.Proofs.Tryd.prog rho 10 sig := ok (fun p hp => by
  cases hp)
end few
namespace end17
abbrev ps : List PM := [.val (.list I64)]
abbrev rs : List PM := [.val I64]
noncomputable abbrev code : Code := (Go.Proofs.Tryd.f41.body.getD .skip)
noncomputable def env : Env := mkEnv tabD [] 0 [] []
abbrev D : Type := (Int × Unit)
noncomputable def run' (cuts0 : (List Int)) : Option D := (if ((↑(List.length cuts0) : Int) == (0 : Int)) = Bool.true then some ((0 : Int), ())
 else (if (0 : Int) ≤ IntKind.wrap .i64 ((↑(List.length cuts0) : Int) - (1 : Int)) then (if IntKind.wrap .i64 ((↑(List.length cuts0) : Int) - (1 : Int)) < (↑(List.length cuts0) : Int) then some (List.getD cuts0 (Int.toNat (IntKind.wrap .i64 ((↑(List.length cuts0) : Int) - (1 : Int)))) (0 : Int), ())
 else none)
 else none))
noncomputable def run (d : Ds (List.map PM.ty ps)) : Option (Ds (muts ps ++ List.map PM.ty rs)) := match d with
  | (cuts0, _) => run' cuts0
theorem run_is : ∀ d, runF env 12 code [2] ps rs d = run d := fun d => by kernel_rfl
theorem loops : LoopsOk env code := loopsOk_of (l := []) (by kernel_rfl) (fun p hp => by
  cases hp)
noncomputable def pre (cuts0 : (List Int)) : Bool := (run' cuts0).isSome
noncomputable def fn (cuts0 : (List Int)) : D := match run' cuts0 with
  | some x => x
  | none => default
noncomputable def sig : Sig := ⟨ps, rs, fun d => match d with
  | (cuts0, _) => pre cuts0, fun d => match d with
  | (cuts0, _) => fn cuts0, false⟩
theorem run_fn (cuts0 : (List Int)) (h : pre cuts0 = true) : run' cuts0 = some (fn cuts0) := by
  unfold pre at h
  unfold fn
  cases e : run' cuts0 with
  | some x => rfl
  | none => rw [e] at h; cases h
theorem is_fn (cuts0 : (List Int)) {x : D} (h : run' cuts0 = some x) : pre cuts0 = true ∧ fn cuts0 = x := by
  unfold pre fn
  rw [h]
  exact ⟨rfl, rfl⟩
theorem sound {ρ : Obs} (hE : EnvOk Go.Proofs.Tryd.prog ρ env) : Sound Go.Proofs.Tryd.prog ρ 41 sig := sound_of (fn := Go.Proofs.Tryd.f41) (c := code) (res := [2]) hE (by kernel_rfl) (by kernel_rfl) (by kernel_rfl) (by kernel_rfl) (by kernel_rfl) loops rfl (show 1 ≤ 12 by decide) (fun d hd => (run_is d).trans (by
  obtain ⟨cuts0, _⟩ := d
  exact run_fn cuts0 hd))
theorem enters : Enters Go.Proofs.Tryd.prog 41 := enters_of (fn := Go.Proofs.Tryd.f41) (by kernel_rfl) (by kernel_rfl) (by kernel_rfl)
theorem ok {ρ : Obs} (h : ∀ p ∈ ([] : List (FuncId × Sig)), Enters Go.Proofs.Tryd.prog p.1 ∧ Sound Go.Proofs.Tryd.prog ρ p.1 p.2) : Enters Go.Proofs.Tryd.prog 41 ∧ Sound Go.Proofs.Tryd.prog ρ 41 sig := ⟨enters, sound (envOk_of tabDOk h)⟩
theorem okR : Enters Go.Proofs.Tryd.prog 41 ∧ Sound Go.Proofs.Tryd.prog rho 41 sig := ok (fun p hp => by
  cases hp)
end end17
namespace tells
abbrev ps : List PM := [.bx 93 [.v (.ptr Ly), .r 3 I64 false, .r 3 I64 false, .r 97 U64 false, .v I64, .v .bool, .v I64, .v I64, .r 3 I64 true], .bx 107 [.v (.list I64), .r 3 I64 false, .r 3 I64 false, .r 4 .bool false, .v I64, .v .bool, .v I64, .v I64]]
abbrev rs : List PM := [.val .bool]
noncomputable abbrev code : Code := (Go.Proofs.Tryd.f12.body.getD .skip)
noncomputable def env : Env := mkEnvF tabD [(25, BoundsE.sig), (46, BoundsR.sig), (29, DirtyE.sig), (47, DirtyR.sig), (33, Check.sig), (48, CheckRf.sig), (21, SameIntsH.sig), (36, SameBools.sig), (45, SameCheck.sig), (16, num17.sig), (18, DoneE.sig), (49, DoneR.sig), (19, PassesE.sig), (50, PassesR.sig)] 9 (fixL ps) [] []
abbrev D : Type := (((Option (List Int)) × ((List Int) × ((List Int) × ((List Int) × (Int × (Bool × (Int × (Int × ((List Int) × Bool))))))))) × ((List Int) × ((List Int) × ((List Int) × ((List Bool) × (Int × (Bool × (Int × (Int × Bool)))))))) × Bool × Unit)
noncomputable def run' (x0_0 : (Option (List Int))) (x0_1 : (List Int)) (x0_2 : (List Int)) (x0_3 : (List Int)) (x0_4 : Int) (x0_5 : Bool) (x0_6 : Int) (x0_7 : Int) (x0_8 : (List Int)) (r1_0 : (List Int)) (r1_1 : (List Int)) (r1_2 : (List Int)) (r1_3 : (List Bool)) (r1_4 : Int) (r1_5 : Bool) (r1_6 : Int) (r1_7 : Int) : Option D := (if BoundsE.pre x0_0 x0_1 x0_2 x0_3 x0_4 x0_5 x0_6 x0_7 x0_8 = Bool.true then (letZ (BoundsE.fn x0_0 x0_1 x0_2 x0_3 x0_4 x0_5 x0_6 x0_7 x0_8) fun z_ =>
 (if BoundsR.pre r1_0 r1_1 r1_2 r1_3 r1_4 r1_5 r1_6 r1_7 = Bool.true then (letZ (BoundsR.fn r1_0 r1_1 r1_2 r1_3 r1_4 r1_5 r1_6 r1_7) fun z__1 =>
 (if SameIntsH.pre z_.2.1 z__1.2.1 = Bool.true then (if DirtyE.pre z_.1.1 z_.1.2.1 z_.1.2.2.1 z_.1.2.2.2.1 z_.1.2.2.2.2.1 z_.1.2.2.2.2.2.1 z_.1.2.2.2.2.2.2.1 z_.1.2.2.2.2.2.2.2.1 z_.1.2.2.2.2.2.2.2.2.1 = Bool.true then (letZ (DirtyE.fn z_.1.1 z_.1.2.1 z_.1.2.2.1 z_.1.2.2.2.1 z_.1.2.2.2.2.1 z_.1.2.2.2.2.2.1 z_.1.2.2.2.2.2.2.1 z_.1.2.2.2.2.2.2.2.1 z_.1.2.2.2.2.2.2.2.2.1) fun z__2 =>
 (if DirtyR.pre z__1.1.1 z__1.1.2.1 z__1.1.2.2.1 z__1.1.2.2.2.1 z__1.1.2.2.2.2.1 z__1.1.2.2.2.2.2.1 z__1.1.2.2.2.2.2.2.1 z__1.1.2.2.2.2.2.2.2.1 = Bool.true then (letZ (DirtyR.fn z__1.1.1 z__1.1.2.1 z__1.1.2.2.1 z__1.1.2.2.2.1 z__1.1.2.2.2.2.1 z__1.1.2.2.2.2.2.1 z__1.1.2.2.2.2.2.2.1 z__1.1.2.2.2.2.2.2.2.1) fun z__3 =>
 (if SameBools.pre z__2.2.1 z__3.2.1 = Bool.true then (if Check.pre z__2.1.1 z__2.1.2.1 z__2.1.2.2.1 z__2.1.2.2.2.1 z__2.1.2.2.2.2.1 z__2.1.2.2.2.2.2.1 z__2.1.2.2.2.2.2.2.1 z__2.1.2.2.2.2.2.2.2.1 z__2.1.2.2.2.2.2.2.2.2.1 = Bool.true then (letZ (Check.fn z__2.1.1 z__2.1.2.1 z__2.1.2.2.1 z__2.1.2.2.2.1 z__2.1.2.2.2.2.1 z__2.1.2.2.2.2.2.1 z__2.1.2.2.2.2.2.2.1 z__2.1.2.2.2.2.2.2.2.1 z__2.1.2.2.2.2.2.2.2.2.1) fun z__4 =>
 (if CheckRf.pre z__3.1.1 z__3.1.2.1 z__3.1.2.2.1 z__3.1.2.2.2.1 z__3.1.2.2.2.2.1 z__3.1.2.2.2.2.2.1 z__3.1.2.2.2.2.2.2.1 z__3.1.2.2.2.2.2.2.2.1 = Bool.true then (letZ (CheckRf.fn z__3.1.1 z__3.1.2.1 z__3.1.2.2.1 z__3.1.2.2.2.1 z__3.1.2.2.2.2.1 z__3.1.2.2.2.2.2.1 z__3.1.2.2.2.2.2.2.1 z__3.1.2.2.2.2.2.2.2.1) fun z__5 =>
 (if SameCheck.pre (z__4.2.1.1, z__4.2.1.2.1, z__4.2.1.2.2) (z__5.2.1.1, z__5.2.1.2.1, z__5.2.1.2.2) = Bool.true then (if (SameCheck.fn (z__4.2.1.1, z__4.2.1.2.1, z__4.2.1.2.2) (z__5.2.1.1, z__5.2.1.2.1, z__5.2.1.2.2)).1 = Bool.true then (if num17.pre z__4.2.2.1 = Bool.true then (if (SameIntsH.fn z_.2.1 z__1.2.1).1 = Bool.true then (if (SameBools.fn z__2.2.1 z__3.2.1).1 = Bool.true then (if ((num17.fn z__4.2.2.1).1 == z__5.2.2.1) = Bool.true then (if DoneE.pre z__4.1.1 z__4.1.2.1 z__4.1.2.2.1 z__4.1.2.2.2.1 z__4.1.2.2.2.2.1 z__4.1.2.2.2.2.2.1 z__4.1.2.2.2.2.2.2.1 z__4.1.2.2.2.2.2.2.2.1 z__4.1.2.2.2.2.2.2.2.2.1 = Bool.true then (letZ (DoneE.fn z__4.1.1 z__4.1.2.1 z__4.1.2.2.1 z__4.1.2.2.2.1 z__4.1.2.2.2.2.1 z__4.1.2.2.2.2.2.1 z__4.1.2.2.2.2.2.2.1 z__4.1.2.2.2.2.2.2.2.1 z__4.1.2.2.2.2.2.2.2.2.1) fun z__6 =>
 (if DoneR.pre z__5.1.1 z__5.1.2.1 z__5.1.2.2.1 z__5.1.2.2.2.1 z__5.1.2.2.2.2.1 z__5.1.2.2.2.2.2.1 z__5.1.2.2.2.2.2.2.1 z__5.1.2.2.2.2.2.2.2.1 = Bool.true then (letZ (DoneR.fn z__5.1.1 z__5.1.2.1 z__5.1.2.2.1 z__5.1.2.2.2.1 z__5.1.2.2.2.2.1 z__5.1.2.2.2.2.2.1 z__5.1.2.2.2.2.2.2.1 z__5.1.2.2.2.2.2.2.2.1) fun z__7 =>
 (if (z__6.2.1 == z__7.2.1) = Bool.true then (if PassesE.pre z__6.1.1 z__6.1.2.1 z__6.1.2.2.1 z__6.1.2.2.2.1 z__6.1.2.2.2.2.1 z__6.1.2.2.2.2.2.1 z__6.1.2.2.2.2.2.2.1 z__6.1.2.2.2.2.2.2.2.1 z__6.1.2.2.2.2.2.2.2.2.1 = Bool.true then (letZ (PassesE.fn z__6.1.1 z__6.1.2.1 z__6.1.2.2.1 z__6.1.2.2.2.1 z__6.1.2.2.2.2.1 z__6.1.2.2.2.2.2.1 z__6.1.2.2.2.2.2.2.1 z__6.1.2.2.2.2.2.2.2.1 z__6.1.2.2.2.2.2.2.2.2.1) fun z__8 =>
 (if PassesR.pre z__7.1.1 z__7.1.2.1 z__7.1.2.2.1 z__7.1.2.2.2.1 z__7.1.2.2.2.2.1 z__7.1.2.2.2.2.2.1 z__7.1.2.2.2.2.2.2.1 z__7.1.2.2.2.2.2.2.2.1 = Bool.true then (letZ (PassesR.fn z__7.1.1 z__7.1.2.1 z__7.1.2.2.1 z__7.1.2.2.2.1 z__7.1.2.2.2.2.1 z__7.1.2.2.2.2.2.1 z__7.1.2.2.2.2.2.2.1 z__7.1.2.2.2.2.2.2.2.1) fun z__9 =>
 some ((z__8.1.1, z__8.1.2.1, z__8.1.2.2.1, z__8.1.2.2.2.1, z__8.1.2.2.2.2.1, z__8.1.2.2.2.2.2.1, z__8.1.2.2.2.2.2.2.1, z__8.1.2.2.2.2.2.2.2.1, z__8.1.2.2.2.2.2.2.2.2.1, Bool.false), (z__9.1.1, z__9.1.2.1, z__9.1.2.2.1, z__9.1.2.2.2.1, z__9.1.2.2.2.2.1, z__9.1.2.2.2.2.2.1, z__9.1.2.2.2.2.2.2.1, z__9.1.2.2.2.2.2.2.2.1, Bool.false), z__8.2.1 == z__9.2.1, ()))
 else none))
 else none)
 else some ((z__6.1.1, z__6.1.2.1, z__6.1.2.2.1, z__6.1.2.2.2.1, z__6.1.2.2.2.2.1, z__6.1.2.2.2.2.2.1, z__6.1.2.2.2.2.2.2.1, z__6.1.2.2.2.2.2.2.2.1, z__6.1.2.2.2.2.2.2.2.2.1, Bool.false), (z__7.1.1, z__7.1.2.1, z__7.1.2.2.1, z__7.1.2.2.2.1, z__7.1.2.2.2.2.1, z__7.1.2.2.2.2.2.1, z__7.1.2.2.2.2.2.2.1, z__7.1.2.2.2.2.2.2.2.1, Bool.false), Bool.false, ())))
 else none))
 else none)
 else some ((z__4.1.1, z__4.1.2.1, z__4.1.2.2.1, z__4.1.2.2.2.1, z__4.1.2.2.2.2.1, z__4.1.2.2.2.2.2.1, z__4.1.2.2.2.2.2.2.1, z__4.1.2.2.2.2.2.2.2.1, z__4.1.2.2.2.2.2.2.2.2.1, Bool.false), (z__5.1.1, z__5.1.2.1, z__5.1.2.2.1, z__5.1.2.2.2.1, z__5.1.2.2.2.2.1, z__5.1.2.2.2.2.2.1, z__5.1.2.2.2.2.2.2.1, z__5.1.2.2.2.2.2.2.2.1, Bool.false), Bool.false, ()))
 else some ((z__4.1.1, z__4.1.2.1, z__4.1.2.2.1, z__4.1.2.2.2.1, z__4.1.2.2.2.2.1, z__4.1.2.2.2.2.2.1, z__4.1.2.2.2.2.2.2.1, z__4.1.2.2.2.2.2.2.2.1, z__4.1.2.2.2.2.2.2.2.2.1, Bool.false), (z__5.1.1, z__5.1.2.1, z__5.1.2.2.1, z__5.1.2.2.2.1, z__5.1.2.2.2.2.1, z__5.1.2.2.2.2.2.1, z__5.1.2.2.2.2.2.2.1, z__5.1.2.2.2.2.2.2.2.1, Bool.false), Bool.false, ()))
 else some ((z__4.1.1, z__4.1.2.1, z__4.1.2.2.1, z__4.1.2.2.2.1, z__4.1.2.2.2.2.1, z__4.1.2.2.2.2.2.1, z__4.1.2.2.2.2.2.2.1, z__4.1.2.2.2.2.2.2.2.1, z__4.1.2.2.2.2.2.2.2.2.1, Bool.false), (z__5.1.1, z__5.1.2.1, z__5.1.2.2.1, z__5.1.2.2.2.1, z__5.1.2.2.2.2.1, z__5.1.2.2.2.2.2.1, z__5.1.2.2.2.2.2.2.1, z__5.1.2.2.2.2.2.2.2.1, Bool.false), Bool.false, ()))
 else none)
 else (if (SameIntsH.fn z_.2.1 z__1.2.1).1 = Bool.true then (if (SameBools.fn z__2.2.1 z__3.2.1).1 = Bool.true then some ((z__4.1.1, z__4.1.2.1, z__4.1.2.2.1, z__4.1.2.2.2.1, z__4.1.2.2.2.2.1, z__4.1.2.2.2.2.2.1, z__4.1.2.2.2.2.2.2.1, z__4.1.2.2.2.2.2.2.2.1, z__4.1.2.2.2.2.2.2.2.2.1, Bool.false), (z__5.1.1, z__5.1.2.1, z__5.1.2.2.1, z__5.1.2.2.2.1, z__5.1.2.2.2.2.1, z__5.1.2.2.2.2.2.1, z__5.1.2.2.2.2.2.2.1, z__5.1.2.2.2.2.2.2.2.1, Bool.false), Bool.false, ())
 else some ((z__4.1.1, z__4.1.2.1, z__4.1.2.2.1, z__4.1.2.2.2.1, z__4.1.2.2.2.2.1, z__4.1.2.2.2.2.2.1, z__4.1.2.2.2.2.2.2.1, z__4.1.2.2.2.2.2.2.2.1, z__4.1.2.2.2.2.2.2.2.2.1, Bool.false), (z__5.1.1, z__5.1.2.1, z__5.1.2.2.1, z__5.1.2.2.2.1, z__5.1.2.2.2.2.1, z__5.1.2.2.2.2.2.1, z__5.1.2.2.2.2.2.2.1, z__5.1.2.2.2.2.2.2.2.1, Bool.false), Bool.false, ()))
 else some ((z__4.1.1, z__4.1.2.1, z__4.1.2.2.1, z__4.1.2.2.2.1, z__4.1.2.2.2.2.1, z__4.1.2.2.2.2.2.1, z__4.1.2.2.2.2.2.2.1, z__4.1.2.2.2.2.2.2.2.1, z__4.1.2.2.2.2.2.2.2.2.1, Bool.false), (z__5.1.1, z__5.1.2.1, z__5.1.2.2.1, z__5.1.2.2.2.1, z__5.1.2.2.2.2.1, z__5.1.2.2.2.2.2.1, z__5.1.2.2.2.2.2.2.1, z__5.1.2.2.2.2.2.2.2.1, Bool.false), Bool.false, ())))
 else none))
 else none))
 else none)
 else none))
 else none))
 else none)
 else none))
 else none))
 else none)
noncomputable def run (d : Ds (List.map PM.ty ps)) : Option (Ds (muts ps ++ List.map PM.ty rs)) := match d with
  | ((x0_0, x0_1, x0_2, x0_3, x0_4, x0_5, x0_6, x0_7, x0_8, _), (r1_0, r1_1, r1_2, r1_3, r1_4, r1_5, r1_6, r1_7, _), _) => run' x0_0 x0_1 x0_2 x0_3 x0_4 x0_5 x0_6 x0_7 x0_8 r1_0 r1_1 r1_2 r1_3 r1_4 r1_5 r1_6 r1_7
theorem run_is : ∀ d, runF env 62 code [4] ps rs d = run d := fun d => by kernel_rfl
theorem loops : LoopsOk env code := loopsOk_of (l := []) (by kernel_rfl) (fun p hp => by
  cases hp)
noncomputable def pre (x0_0 : (Option (List Int))) (x0_1 : (List Int)) (x0_2 : (List Int)) (x0_3 : (List Int)) (x0_4 : Int) (x0_5 : Bool) (x0_6 : Int) (x0_7 : Int) (x0_8 : (List Int)) (r1_0 : (List Int)) (r1_1 : (List Int)) (r1_2 : (List Int)) (r1_3 : (List Bool)) (r1_4 : Int) (r1_5 : Bool) (r1_6 : Int) (r1_7 : Int) : Bool := (run' x0_0 x0_1 x0_2 x0_3 x0_4 x0_5 x0_6 x0_7 x0_8 r1_0 r1_1 r1_2 r1_3 r1_4 r1_5 r1_6 r1_7).isSome
noncomputable def fn (x0_0 : (Option (List Int))) (x0_1 : (List Int)) (x0_2 : (List Int)) (x0_3 : (List Int)) (x0_4 : Int) (x0_5 : Bool) (x0_6 : Int) (x0_7 : Int) (x0_8 : (List Int)) (r1_0 : (List Int)) (r1_1 : (List Int)) (r1_2 : (List Int)) (r1_3 : (List Bool)) (r1_4 : Int) (r1_5 : Bool) (r1_6 : Int) (r1_7 : Int) : D := match run' x0_0 x0_1 x0_2 x0_3 x0_4 x0_5 x0_6 x0_7 x0_8 r1_0 r1_1 r1_2 r1_3 r1_4 r1_5 r1_6 r1_7 with
  | some x => x
  | none => default
noncomputable def sig : Sig := ⟨ps, rs, fun d => match d with
  | ((x0_0, x0_1, x0_2, x0_3, x0_4, x0_5, x0_6, x0_7, x0_8, _), (r1_0, r1_1, r1_2, r1_3, r1_4, r1_5, r1_6, r1_7, _), _) => pre x0_0 x0_1 x0_2 x0_3 x0_4 x0_5 x0_6 x0_7 x0_8 r1_0 r1_1 r1_2 r1_3 r1_4 r1_5 r1_6 r1_7, fun d => match d with
  | ((x0_0, x0_1, x0_2, x0_3, x0_4, x0_5, x0_6, x0_7, x0_8, _), (r1_0, r1_1, r1_2, r1_3, r1_4, r1_5, r1_6, r1_7, _), _) => fn x0_0 x0_1 x0_2 x0_3 x0_4 x0_5 x0_6 x0_7 x0_8 r1_0 r1_1 r1_2 r1_3 r1_4 r1_5 r1_6 r1_7, false⟩
theorem run_fn (x0_0 : (Option (List Int))) (x0_1 : (List Int)) (x0_2 : (List Int)) (x0_3 : (List Int)) (x0_4 : Int) (x0_5 : Bool) (x0_6 : Int) (x0_7 : Int) (x0_8 : (List Int)) (r1_0 : (List Int)) (r1_1 : (List Int)) (r1_2 : (List Int)) (r1_3 : (List Bool)) (r1_4 : Int) (r1_5 : Bool) (r1_6 : Int) (r1_7 : Int) (h : pre x0_0 x0_1 x0_2 x0_3 x0_4 x0_5 x0_6 x0_7 x0_8 r1_0 r1_1 r1_2 r1_3 r1_4 r1_5 r1_6 r1_7 = true) : run' x0_0 x0_1 x0_2 x0_3 x0_4 x0_5 x0_6 x0_7 x0_8 r1_0 r1_1 r1_2 r1_3 r1_4 r1_5 r1_6 r1_7 = some (fn x0_0 x0_1 x0_2 x0_3 x0_4 x0_5 x0_6 x0_7 x0_8 r1_0 r1_1 r1_2 r1_3 r1_4 r1_5 r1_6 r1_7) := by
  unfold pre at h
  unfold fn
  cases e : run' x0_0 x0_1 x0_2 x0_3 x0_4 x0_5 x0_6 x0_7 x0_8 r1_0 r1_1 r1_2 r1_3 r1_4 r1_5 r1_6 r1_7 with
  | some x => rfl
  | none => rw [e] at h; cases h
theorem is_fn (x0_0 : (Option (List Int))) (x0_1 : (List Int)) (x0_2 : (List Int)) (x0_3 : (List Int)) (x0_4 : Int) (x0_5 : Bool) (x0_6 : Int) (x0_7 : Int) (x0_8 : (List Int)) (r1_0 : (List Int)) (r1_1 : (List Int)) (r1_2 : (List Int)) (r1_3 : (List Bool)) (r1_4 : Int) (r1_5 : Bool) (r1_6 : Int) (r1_7 : Int) {x : D} (h : run' x0_0 x0_1 x0_2 x0_3 x0_4 x0_5 x0_6 x0_7 x0_8 r1_0 r1_1 r1_2 r1_3 r1_4 r1_5 r1_6 r1_7 = some x) : pre x0_0 x0_1 x0_2 x0_3 x0_4 x0_5 x0_6 x0_7 x0_8 r1_0 r1_1 r1_2 r1_3 r1_4 r1_5 r1_6 r1_7 = true ∧ fn x0_0 x0_1 x0_2 x0_3 x0_4 x0_5 x0_6 x0_7 x0_8 r1_0 r1_1 r1_2 r1_3 r1_4 r1_5 r1_6 r1_7 = x := by
  unfold pre fn
  rw [h]
  exact ⟨rfl, rfl⟩
theorem sound {ρ : Obs} (hE : EnvOk Go.Proofs.Tryd.prog ρ env) : Sound Go.Proofs.Tryd.prog ρ 12 sig := sound_of (fn := Go.Proofs.Tryd.f12) (c := code) (res := [4]) hE (by kernel_rfl) (by kernel_rfl) (by kernel_rfl) (by kernel_rfl) (by kernel_rfl) loops rfl (show 2 ≤ 62 by decide) (fun d hd => (run_is d).trans (by
  obtain ⟨⟨x0_0, x0_1, x0_2, x0_3, x0_4, x0_5, x0_6, x0_7, x0_8, _⟩, ⟨r1_0, r1_1, r1_2, r1_3, r1_4, r1_5, r1_6, r1_7, _⟩, _⟩ := d
  exact run_fn x0_0 x0_1 x0_2 x0_3 x0_4 x0_5 x0_6 x0_7 x0_8 r1_0 r1_1 r1_2 r1_3 r1_4 r1_5 r1_6 r1_7 hd))
theorem enters : Enters Go.Proofs.Tryd.prog 12 := enters_of (fn := Go.Proofs.Tryd.f12) (by kernel_rfl) (by kernel_rfl) (by kernel_rfl)
theorem ok {ρ : Obs} (h : ∀ p ∈ ([(25, BoundsE.sig), (46, BoundsR.sig), (29, DirtyE.sig), (47, DirtyR.sig), (33, Check.sig), (48, CheckRf.sig), (21, SameIntsH.sig), (36, SameBools.sig), (45, SameCheck.sig), (16, num17.sig), (18, DoneE.sig), (49, DoneR.sig), (19, PassesE.sig), (50, PassesR.sig)] : List (FuncId × Sig)), Enters Go.Proofs.Tryd.prog p.1 ∧ Sound Go.Proofs.Tryd.prog ρ p.1 p.2) : Enters Go.Proofs.Tryd.prog 12 ∧ Sound Go.Proofs.Tryd.prog ρ 12 sig := ⟨enters, sound (envOk_ofF tabDOk h)⟩
theorem okR : Enters Go.Proofs.Tryd.prog 12 ∧ Sound Go.Proofs.Tryd.prog rho 12 sig := ok (fun p hp => by
  simp only [List.mem_cons, List.not_mem_nil, or_false] at hp
  rcases hp with rfl | rfl | rfl | rfl | rfl | rfl | rfl | rfl | rfl | rfl | rfl | rfl | rfl | rfl
  · exact BoundsE.okR
  · exact BoundsR.okR
  · exact DirtyE.okR
  · exact DirtyR.okR
  · exact Check.okR
  · exact CheckRf.okR
  · exact SameIntsH.okR
  · exact SameBools.okR
  · exact SameCheck.okR
  · exact num17.okR
  · exact DoneE.okR
  · exact DoneR.okR
  · exact PassesE.okR
  · exact PassesR.okR)
end tells
end Go.Proofs.YthbojpaghbbnnaaDoor.Z
namespace Go.Proofs.YthbojpaghbbnnaaDoor.Z
open Go Go.RowKit
set_option linter.unusedVariables false
set_option linter.unusedSimpArgs false
theorem wrapU {x : Nat} (h : x < 18446744073709551616) : IntKind.wrap .u64 (x : Int) = (x : Int) := by
  unfold IntKind.wrap
  simp [IntKind.bits, IntKind.signed]
  omega
theorem bz_and {a b : Nat} (ha : a < 18446744073709551616) (hb : b < 18446744073709551616) : bitsZ .and .u64 (a : Int) (b : Int) = ((a &&& b : Nat) : Int) := by
  have h : a &&& b < 18446744073709551616 := Nat.lt_of_le_of_lt Nat.and_le_left ha
  rw [bitsZ_eq]
  show IntKind.wrap .u64 (((BitVec.ofInt 64 (a : Int) &&& BitVec.ofInt 64 (b : Int)).toNat : Nat) : Int) = _
  simp only [BitVec.ofInt_natCast, BitVec.toNat_and, BitVec.toNat_ofNat]
  rw [Nat.mod_eq_of_lt (show a < 2 ^ 64 from ha), Nat.mod_eq_of_lt (show b < 2 ^ 64 from hb), wrapU h]
theorem bz_or {a b : Nat} (ha : a < 18446744073709551616) (hb : b < 18446744073709551616) : bitsZ .or .u64 (a : Int) (b : Int) = ((a ||| b : Nat) : Int) := by
  have h : a ||| b < 18446744073709551616 := Nat.or_lt_two_pow (n := 64) ha hb
  rw [bitsZ_eq]
  show IntKind.wrap .u64 (((BitVec.ofInt 64 (a : Int) ||| BitVec.ofInt 64 (b : Int)).toNat : Nat) : Int) = _
  simp only [BitVec.ofInt_natCast, BitVec.toNat_or, BitVec.toNat_ofNat]
  rw [Nat.mod_eq_of_lt (show a < 2 ^ 64 from ha), Nat.mod_eq_of_lt (show b < 2 ^ 64 from hb), wrapU h]
theorem bz_andNot {a b : Nat} (ha : a < 18446744073709551616) (hb : b < 18446744073709551616) : bitsZ .andNot .u64 (a : Int) (b : Int) = ((a &&& (18446744073709551615 - b) : Nat) : Int) := by
  have h : a &&& (18446744073709551615 - b) < 18446744073709551616 := Nat.lt_of_le_of_lt Nat.and_le_left ha
  rw [bitsZ_eq]
  show IntKind.wrap .u64 (((BitVec.ofInt 64 (a : Int) &&& ~~~(BitVec.ofInt 64 (b : Int))).toNat : Nat) : Int) = _
  simp only [BitVec.ofInt_natCast, BitVec.toNat_and, BitVec.toNat_not, BitVec.toNat_ofNat]
  rw [Nat.mod_eq_of_lt (show a < 2 ^ 64 from ha), Nat.mod_eq_of_lt (show b < 2 ^ 64 from hb), show 2 ^ 64 - 1 - b = 18446744073709551615 - b by rfl, wrapU h]
theorem pow_lt {k : Nat} (hk : k < 64) : 2 ^ k < 18446744073709551616 := by
  have : 2 ^ k < 2 ^ 64 := Nat.pow_lt_pow_right (by decide) hk
  simpa using this
theorem one_shl {k : Nat} (hk : k < 64) : IntKind.wrap .u64 ((1 : Int) * (2 : Int) ^ (min k 64 : Nat)) = ((2 ^ k : Nat) : Int) := by
  rw [Nat.min_eq_left (by omega), Int.one_mul]
  have := wrapU (pow_lt hk)
  push_cast at this ⊢
  exact this
def W64 (dr : List Int) : Prop := ∀ i, 0 ≤ dr.getD i 0 ∧ dr.getD i 0 < 18446744073709551616
def bitAt (dr : List Int) (s : Nat) : Bool := (dr.getD (s / 64) 0).toNat.testBit (s % 64)
def setBit (dr : List Int) (s : Nat) : List Int := dr.set (s / 64) (((dr.getD (s / 64) 0).toNat ||| 2 ^ (s % 64) : Nat) : Int)
def clrBit (dr : List Int) (s : Nat) : List Int := dr.set (s / 64) (((dr.getD (s / 64) 0).toNat &&& (18446744073709551615 - 2 ^ (s % 64)) : Nat) : Int)
theorem setBit_len (dr : List Int) (s : Nat) : (setBit dr s).length = dr.length := List.length_set
theorem clrBit_len (dr : List Int) (s : Nat) : (clrBit dr s).length = dr.length := List.length_set
theorem W64.nat {dr : List Int} (h : W64 dr) (i : Nat) : ∃ x : Nat, dr.getD i 0 = (x : Int) ∧ x < 18446744073709551616 := by
  obtain ⟨h1, h2⟩ := h i
  exact ⟨(dr.getD i 0).toNat, by omega, by omega⟩
theorem W64.set {dr : List Int} (h : W64 dr) (i : Nat) {x : Nat} (hx : x < 18446744073709551616) : W64 (dr.set i (x : Int)) := fun j => by
  rw [getD_setP]
  split
  · omega
  · exact h j
theorem W64.setBit {dr : List Int} (h : W64 dr) (s : Nat) : W64 (setBit dr s) := by
  refine h.set _ (Nat.or_lt_two_pow (n := 64) ?_ (pow_lt (by omega)))
  have := h (s / 64)
  show _ < 18446744073709551616
  omega
theorem W64.clrBit {dr : List Int} (h : W64 dr) (s : Nat) : W64 (clrBit dr s) := by
  refine h.set _ (Nat.lt_of_le_of_lt Nat.and_le_left ?_)
  have := h (s / 64)
  omega
theorem bit_out {dr : List Int} {s : Nat} (h : 64 * dr.length ≤ s) : bitAt dr s = false := by
  unfold bitAt
  rw [List.getD_eq_getElem?_getD, List.getElem?_eq_none (by omega)]
  simp
theorem bit_set {dr : List Int} {s t : Nat} (hs : s < 64 * dr.length) : bitAt (setBit dr s) t = (bitAt dr t || decide (t = s)) := by
  unfold bitAt setBit
  rw [getD_setP]
  by_cases h : s / 64 = t / 64
  · rw [if_pos ⟨h, by omega⟩, Int.toNat_natCast, Nat.testBit_or, Nat.testBit_two_pow, h]
    congr 1
    exact decide_eq_decide.2 (by omega)
  · rw [if_neg (fun k => h k.1)]
    have : ¬ t = s := by omega
    simp [this]
/-- The least flag from a place on. -/
def leastN (dr : List Int) (fr : Nat) : Int := match (List.range (64 * dr.length)).find? (fun s => decide (fr ≤ s) && bitAt dr s) with
  | some s => (s : Int)
  | none => -1
structure IsLeast (dr : List Int) (fr : Nat) (s : Nat) : Prop where
  ge : fr ≤ s
  bit : bitAt dr s = true
  no : ∀ t, fr ≤ t → t < s → bitAt dr t = false
theorem IsLeast.lt {dr : List Int} {fr s : Nat} (h : IsLeast dr fr s) : s < 64 * dr.length := by
  rcases Nat.lt_or_ge s (64 * dr.length) with k | k
  · exact k
  · have := bit_out k
    rw [h.bit] at this
    cases this
theorem leastN_none {dr : List Int} {fr : Nat} (h : ∀ s, fr ≤ s → bitAt dr s = false) : leastN dr fr = -1 := by
  unfold leastN
  rw [List.find?_eq_none.2 (fun s _ => by
    by_cases k : fr ≤ s
    · simp [h s k]
    · simp [k])]
theorem leastN_some {dr : List Int} {fr s : Nat} (h : IsLeast dr fr s) : leastN dr fr = (s : Int) := by
  unfold leastN
  have : (List.range (64 * dr.length)).find? (fun s => decide (fr ≤ s) && bitAt dr s) = some s := by
    rw [List.find?_range_eq_some]
    refine ⟨by simp [h.ge, h.bit], by simpa using h.lt, fun t ht => ?_⟩
    by_cases k : fr ≤ t
    · simp [h.no t k ht]
    · simp [k]
  rw [this]
theorem least_cases (dr : List Int) (fr : Nat) : (leastN dr fr = -1 ∧ ∀ s, fr ≤ s → bitAt dr s = false) ∨ ∃ s : Nat, leastN dr fr = (s : Int) ∧ IsLeast dr fr s := by
  by_cases h : ∃ s, fr ≤ s ∧ bitAt dr s = true
  · right
    obtain ⟨s, h1, h2⟩ := h
    have key : ∀ n : Nat, (∃ t, t < n ∧ fr ≤ t ∧ bitAt dr t = true) → ∃ s, IsLeast dr fr s := by
      intro n
      induction n with
      | zero => rintro ⟨t, h, _⟩; omega
      | succ n ih =>
        rintro ⟨t, h1, h2, h3⟩
        by_cases hn : ∃ t, t < n ∧ fr ≤ t ∧ bitAt dr t = true
        · exact ih hn
        · have : t = n := by
            rcases Nat.lt_or_ge t n with k | k
            · exact absurd ⟨t, k, h2, h3⟩ hn
            · omega
          subst this
          exact ⟨t, h2, h3, fun u hu hl => by
            cases hb : bitAt dr u with
            | false => rfl
            | true => exact absurd ⟨u, hl, hu, hb⟩ hn⟩
    obtain ⟨s', hs'⟩ := key (s + 1) ⟨s, by omega, h1, h2⟩
    exact ⟨s', leastN_some hs', hs'⟩
  · left
    have : ∀ s, fr ≤ s → bitAt dr s = false := fun s hs => by
      cases hb : bitAt dr s with
      | false => rfl
      | true => exact absurd ⟨s, hs, hb⟩ h
    exact ⟨leastN_none this, this⟩
theorem ctz_bits {x : Nat} (h0 : x ≠ 0) (hx : x < 18446744073709551616) : Lib.ctz 64 x < 64 ∧ x.testBit (Lib.ctz 64 x) = true ∧ ∀ j, j < Lib.ctz 64 x → x.testBit j = false := by
  have e : Lib.ctz 64 x = Lib.ctzFrom 64 x := by unfold Lib.ctz; rw [if_neg h0]
  rw [e]
  obtain ⟨m, h1, h2⟩ := Lib.ctzFrom_spec 64 x (by omega) hx
  obtain ⟨c, hc⟩ : ∃ c, c = Lib.ctzFrom 64 x := ⟨_, rfl⟩
  rw [← hc] at h1 h2 ⊢
  refine ⟨h2, ?_, fun j hj => ?_⟩
  · rw [h1]
    rw [Nat.mul_comm, Nat.testBit_mul_two_pow]
    simp
  · rw [h1]
    rw [Nat.mul_comm, Nat.testBit_mul_two_pow]
    have : ¬ j ≥ c := by omega
    simp [this]
end Go.Proofs.YthbojpaghbbnnaaDoor.Z
namespace Go.Proofs.YthbojpaghbbnnaaDoor.Z
open Go Go.RowKit
set_option linter.unusedVariables false
set_option linter.unusedSimpArgs false
theorem mask_all : ∀ k, k < 64 → IntKind.wrap .u64 ((18446744073709551615 : Int) * (2 : Int) ^ (min k 64 : Nat)) = ((18446744073709551616 - 2 ^ k : Nat) : Int) := by decide +kernel
theorem mask_bit : ∀ k, k < 64 → ∀ i, i < 64 → (18446744073709551616 - 2 ^ k : Nat).testBit i = decide (k ≤ i) := by decide +kernel
theorem tdiv64 (s : Nat) (h : s < 4611686018427387904) : IntKind.wrap .i64 (Int.tdiv (s : Int) 64) = ((s / 64 : Nat) : Int) := by
  have e : Int.tdiv (s : Int) 64 = ((s / 64 : Nat) : Int) := rfl
  rw [e]
  exact wr (by omega) (by omega)
theorem tmod64 (s : Nat) : Int.tmod (s : Int) 64 = ((s % 64 : Nat) : Int) := rfl
/-- Words of flags of no more than so many shards. -/
structure Wds (dr : List Int) : Prop where
  w : W64 dr
  len : dr.length ≤ 65536
theorem bitAt_word {dr : List Int} {x j s : Nat} (hx : dr.getD j 0 = (x : Int)) (hs : s / 64 = j) : bitAt dr s = x.testBit (s % 64) := by
  unfold bitAt
  rw [hs, hx, Int.toNat_natCast]
theorem leastE.is {dr : List Int} (hW : Wds dr) (l : Option (List Int)) (dg bd : List Int) (p : Int) (u : Bool) (q c : Int) (k : List Int) {fr : Nat} (hf : fr < 4294967296) :
    leastE.pre l dg bd dr p u q c k (fr : Int) = true ∧ leastE.fn l dg bd dr p u q c k (fr : Int) = ((l, dg, bd, dr, p, u, q, c, k, false), leastN dr fr, ()) := by
  have hlen := hW.len
  have key := leastE.F2_inv (from1 := (fr : Int)) (c0x0 := l) (c0x4 := p) (c0x5 := u) (c0x6 := q) (c0x7 := c) (r1 := dg) (r2 := bd) (r3 := dr) (r4 := k)
    (fun i => ∃ j : Nat, i = (j : Int) ∧ fr / 64 ≤ j ∧ (j ≤ dr.length ∨ j = fr / 64) ∧ ∀ s, fr ≤ s → s < 64 * j → bitAt dr s = false) (fun i => dr.length - i.toNat)
    (fun z => z = Sum.inl ((leastN dr fr, ()), ((l, p, u, q, c, ()), dg, bd, dr, k, ())) ∨ (z = Sum.inr ((), ((l, p, u, q, c, ()), dg, bd, dr, k, ())) ∧ leastN dr fr = -1))
    (fun i hI => by
      obtain ⟨j, rfl, hj, hjl, hn⟩ := hI
      unfold leastE.R2
      refine led_dif (fun q1 => ?_) (fun q1 => led_x (.inr ⟨rfl, ?_⟩))
      · have hjl : j < dr.length := by omega
        obtain ⟨x, hx, hx2⟩ := hW.w.nat j
        have a0 : (0 : Int) ≤ (j : Int) := by omega
        have hw1 : IntKind.wrap .i64 ((j : Int) + 1) = (j : Int) + 1 := wr (by omega) (by omega)
        have hw2 : IntKind.wrap .i64 ((64 : Int) * (j : Int)) = (64 : Int) * (j : Int) := wr (by omega) (by omega)
        have hm0 : (0 : Int) ≤ ((fr % 64 : Nat) : Int) := by omega
        refine led_need a0 (led_need q1 ?_)
        rw [tdiv64 fr (by omega), tmod64, Int.toNat_natCast, Int.toNat_natCast, hx]
        by_cases hjf : j = fr / 64
        · have e1 : ((j : Int) == ((fr / 64 : Nat) : Int)) = true := by rw [hjf]; simp
          refine led_yes e1 (led_need hm0 ?_)
          rw [mask_all (fr % 64) (Nat.mod_lt _ (by decide))]
          have hml : (18446744073709551616 - 2 ^ (fr % 64) : Nat) < 18446744073709551616 := by
            have := Nat.two_pow_pos (fr % 64); omega
          rw [bz_and hx2 hml]
          generalize hy : x &&& (18446744073709551616 - 2 ^ (fr % 64)) = y
          have hyb : ∀ i, i < 64 → y.testBit i = (x.testBit i && decide (fr % 64 ≤ i)) := fun i hi => by
            rw [← hy, Nat.testBit_and, mask_bit _ (Nat.mod_lt _ (by decide)) i hi]
          have hy2 : y < 18446744073709551616 := by rw [← hy]; exact Nat.lt_of_le_of_lt Nat.and_le_left hx2
          by_cases hy0 : y = 0
          · have e2 : ((y : Int) != 0) = false := by rw [hy0]; rfl
            rw [e2]
            refine led_no (by simp) ?_
            rw [hw1]
            refine led_k ⟨_, rfl, ⟨j + 1, by omega, by omega, by omega, fun s h1 h2 => ?_⟩, by omega⟩
            have h3 : s / 64 = j := by omega
            rw [bitAt_word hx h3]
            have := hyb (s % 64) (Nat.mod_lt _ (by decide))
            rw [hy0, Nat.zero_testBit, decide_eq_true (by omega), Bool.and_true] at this
            exact this.symm
          · have e2 : ((y : Int) != 0) = true := by simp; omega
            obtain ⟨b1, b2, b3⟩ := ctz_bits hy0 hy2
            have hp : Tz.pre (y : Int) = true := by
              unfold Tz.pre
              exact and_need (decide_eq_true (by omega)) (decide_eq_true (by omega))
            refine led_yes e2 (led_need hp ?_)
            have ef : (Tz.fn (y : Int)).1 = (Lib.ctz 64 y : Int) := by
              show (Lib.ctz 64 (y : Int).toNat : Int) = _
              rw [Int.toNat_natCast]
            have hw3 : IntKind.wrap .i64 ((64 : Int) * (j : Int) + (Lib.ctz 64 y : Int)) = (64 : Int) * (j : Int) + (Lib.ctz 64 y : Int) := wr (by omega) (by omega)
            rw [ef, hw2, hw3]
            have hL : IsLeast dr fr (64 * j + Lib.ctz 64 y) := by
              have c1 := hyb _ b1
              rw [b2] at c1
              have c2 := c1.symm
              rw [Bool.and_eq_true, decide_eq_true_eq] at c2
              refine ⟨by omega, ?_, fun t h1 h2 => ?_⟩
              · rw [bitAt_word hx (show (64 * j + Lib.ctz 64 y) / 64 = j by omega), show (64 * j + Lib.ctz 64 y) % 64 = Lib.ctz 64 y by omega]
                exact c2.1
              · have h3 : t / 64 = j := by omega
                rw [bitAt_word hx h3]
                have := hyb (t % 64) (Nat.mod_lt _ (by decide))
                rw [b3 (t % 64) (by omega), decide_eq_true (by omega), Bool.and_true] at this
                exact this.symm
            refine led_x (.inl ?_)
            rw [leastN_some hL]
            push_cast
            rfl
        · have e1 : ((j : Int) == ((fr / 64 : Nat) : Int)) = false := by
            rw [beq_eq_false_iff_ne]; omega
          rw [e1]
          refine led_no (by simp) ?_
          by_cases hy0 : x = 0
          · have e2 : ((x : Int) != 0) = false := by rw [hy0]; rfl
            rw [e2]
            refine led_no (by simp) ?_
            rw [hw1]
            refine led_k ⟨_, rfl, ⟨j + 1, by omega, by omega, by omega, fun s h1 h2 => ?_⟩, by omega⟩
            by_cases h3 : s / 64 = j
            · rw [bitAt_word hx h3, hy0, Nat.zero_testBit]
            · exact hn s h1 (by omega)
          · have e2 : ((x : Int) != 0) = true := by simp; omega
            obtain ⟨b1, b2, b3⟩ := ctz_bits hy0 hx2
            have hp : Tz.pre (x : Int) = true := by
              unfold Tz.pre
              exact and_need (decide_eq_true (by omega)) (decide_eq_true (by omega))
            refine led_yes e2 (led_need hp ?_)
            have ef : (Tz.fn (x : Int)).1 = (Lib.ctz 64 x : Int) := by
              show (Lib.ctz 64 (x : Int).toNat : Int) = _
              rw [Int.toNat_natCast]
            have hw3 : IntKind.wrap .i64 ((64 : Int) * (j : Int) + (Lib.ctz 64 x : Int)) = (64 : Int) * (j : Int) + (Lib.ctz 64 x : Int) := wr (by omega) (by omega)
            rw [ef, hw2, hw3]
            have hL : IsLeast dr fr (64 * j + Lib.ctz 64 x) := by
              refine ⟨by omega, ?_, fun t h1 h2 => ?_⟩
              · rw [bitAt_word hx (show (64 * j + Lib.ctz 64 x) / 64 = j by omega), show (64 * j + Lib.ctz 64 x) % 64 = Lib.ctz 64 x by omega]
                exact b2
              · by_cases h3 : t / 64 = j
                · rw [bitAt_word hx h3]
                  exact b3 (t % 64) (by omega)
                · exact hn t h1 (by omega)
            refine led_x (.inl ?_)
            rw [leastN_some hL]
            push_cast
            rfl
      · refine leastN_none (fun s hs => ?_)
        by_cases h3 : s < 64 * j
        · exact hn s hs h3
        · exact bit_out (by omega)) ((fr / 64 : Nat) : Int) ⟨fr / 64, rfl, Nat.le_refl _, .inr rfl, fun s h1 h2 => by omega⟩
  obtain ⟨z, hz, hq⟩ := key
  refine leastE.is_fn _ _ _ _ _ _ _ _ _ _ ?_
  unfold leastE.run'
  rw [tdiv64 fr (by omega), hz]
  rcases hq with rfl | ⟨rfl, e⟩
  · rfl
  · rw [e]
theorem mark.is {dr : List Int} (hW : Wds dr) (l : Option (List Int)) (dg bd : List Int) (p : Int) (u : Bool) (q c : Int) (k : List Int) {s : Nat} (hs : s < 64 * dr.length) :
    mark.pre l dg bd dr p u q c k (s : Int) = true ∧ mark.fn l dg bd dr p u q c k (s : Int) = ((l, dg, bd, setBit dr s, p, u, q, c, k, false), ()) := by
  have hlen := hW.len
  refine mark.is_fn _ _ _ _ _ _ _ _ _ _ ?_
  unfold mark.run'
  obtain ⟨x, hx, hx2⟩ := hW.w.nat (s / 64)
  have a0 : (0 : Int) ≤ ((s / 64 : Nat) : Int) := by omega
  have a1 : ((s / 64 : Nat) : Int) < (dr.length : Int) := by omega
  have a2 : (0 : Int) ≤ ((s % 64 : Nat) : Int) := by omega
  have a3 : s / 64 < dr.length := by omega
  have hk : s % 64 < 64 := Nat.mod_lt _ (by decide)
  simp only [tdiv64 s (by omega), tmod64, Int.toNat_natCast, a0, a1, a2, a3, if_true]
  rw [hx, one_shl hk, bz_or hx2 (pow_lt hk)]
  unfold setBit
  rw [hx, Int.toNat_natCast]
theorem NextE.is {dr : List Int} (hW : Wds dr) (l : Option (List Int)) (dg bd : List Int) {p : Int} (hp : 0 ≤ p ∧ p < 4611686018427387904) (u : Bool) (q : Nat) (hq : q < 4294967296) (c : Int) (k : List Int) :
    NextE.pre l dg bd dr p u (q : Int) c k = true ∧ NextE.fn l dg bd dr p u (q : Int) c k =
      if u = false ∧ leastN dr 0 < 0 then ((l, dg, bd, dr, p, u, (q : Int), c, k, false), -1, ())
      else if leastN dr (if u = true then q else 0) < 0 then ((l, dg, bd, dr, p + 1, false, (if u = true then (q : Int) else 0), leastN dr (if u = true then q else 0), k, false), leastN dr (if u = true then q else 0), ())
      else ((l, dg, bd, dr, p, true, (if u = true then (q : Int) else 0), leastN dr (if u = true then q else 0), k, false), leastN dr (if u = true then q else 0), ()) := by
  have hw : IntKind.wrap .i64 (p + 1) = p + 1 := wr (by omega) (by omega)
  refine NextE.is_fn _ _ _ _ _ _ _ _ _ ?_
  unfold NextE.run'
  cases u with
  | false =>
    obtain ⟨h1, h2⟩ := leastE.is hW l dg bd p false (q : Int) c k (fr := 0) (by decide)
    obtain ⟨h3, h4⟩ := leastE.is hW l dg bd p true 0 c k (fr := 0) (by decide)
    have h1 : leastE.pre l dg bd dr p false (q : Int) c k (0 : Int) = true := h1
    have h2 : leastE.fn l dg bd dr p false (q : Int) c k (0 : Int) = _ := h2
    have h3 : leastE.pre l dg bd dr p true (0 : Int) c k (0 : Int) = true := h3
    have h4 : leastE.fn l dg bd dr p true (0 : Int) c k (0 : Int) = _ := h4
    by_cases hn : leastN dr 0 < 0
    · simp [letZ, h1, h2, hn]
    · simp [letZ, h1, h2, h3, h4, hn]
  | true =>
    obtain ⟨h1, h2⟩ := leastE.is hW l dg bd p true (q : Int) c k hq
    by_cases hn : leastN dr q < 0
    · simp [letZ, h1, h2, hn, hw]
    · simp [letZ, h1, h2, hn, hw]
theorem DoneE.is {dr : List Int} (hW : Wds dr) (l : Option (List Int)) (dg bd : List Int) (p : Int) (u : Bool) (q c : Int) (k : List Int) :
    DoneE.pre l dg bd dr p u q c k = true ∧ DoneE.fn l dg bd dr p u q c k = ((l, dg, bd, dr, p, u, q, c, k, false), (!u && decide (leastN dr 0 < 0)), ()) := by
  refine DoneE.is_fn _ _ _ _ _ _ _ _ _ ?_
  unfold DoneE.run'
  cases u with
  | false =>
    obtain ⟨h1, h2⟩ := leastE.is hW l dg bd p false q c k (fr := 0) (by decide)
    have h1 : leastE.pre l dg bd dr p false q c k (0 : Int) = true := h1
    have h2 : leastE.fn l dg bd dr p false q c k (0 : Int) = _ := h2
    simp [letZ, h1, h2]
  | true => rfl
/-- What Dirty tells. -/
def flagsOf (n : Nat) (dr : List Int) : List Bool := (List.range n).map (bitAt dr)
theorem flagsOf_len (n : Nat) (dr : List Int) : (flagsOf n dr).length = n := by simp [flagsOf]
theorem flagsOf_get {n : Nat} {dr : List Int} {i : Nat} (h : i < n) : (flagsOf n dr).getD i false = bitAt dr i := by
  unfold flagsOf
  rw [List.getD_eq_getElem?_getD, List.getElem?_map, List.getElem?_range h]
  rfl
theorem shr_bit {x : Nat} (hx : x < 18446744073709551616) {k : Nat} (hk : k < 64) : (bitsZ .and .u64 (Int.fdiv (x : Int) ((2 : Int) ^ (min k 64 : Nat))) 1 != 0) = x.testBit k := by
  have e : Int.fdiv (x : Int) ((2 : Int) ^ (min k 64 : Nat)) = ((x / 2 ^ k : Nat) : Int) := by
    rw [Nat.min_eq_left (by omega), Int.fdiv_eq_ediv_of_nonneg _ (Int.le_of_lt (Int.pow_pos (by decide)))]
    push_cast
    rfl
  rw [e, show (1 : Int) = ((1 : Nat) : Int) from rfl, bz_and (Nat.lt_of_le_of_lt (Nat.div_le_self _ _) hx) (by decide)]
  rw [Nat.testBit_eq_decide_div_mod_eq, Nat.and_one_is_mod]
  have := Nat.mod_two_eq_zero_or_one (x / 2 ^ k)
  rcases this with h | h <;> simp [h]
theorem DirtyE.is {dr : List Int} (hW : Wds dr) {cs : List Int} (hc : cs.length < 64 * dr.length) (dg bd : List Int) (p : Int) (u : Bool) (q c : Int) (k : List Int) :
    DirtyE.pre (some cs) dg bd dr p u q c k = true ∧ DirtyE.fn (some cs) dg bd dr p u q c k = ((some cs, dg, bd, dr, p, u, q, c, k, false), flagsOf cs.length dr, ()) := by
  have hlen := hW.len
  have hS : Shards.pre (some cs) = true ∧ Shards.fn (some cs) = ((cs.length : Int), ()) := Shards.is_fn _ rfl
  have key := DirtyE.F3_inv (t12 := (cs.length : Int)) (c0x0 := some cs) (c0x4 := p) (c0x5 := u) (c0x6 := q) (c0x7 := c) (r1 := dg) (r2 := bd) (r3 := dr) (r4 := k)
    (fun i r => ∃ j : Nat, i = (j : Int) ∧ j ≤ cs.length ∧ r.length = cs.length ∧ ∀ s, s < j → r.getD s false = bitAt dr s) (fun i _ => cs.length - i.toNat)
    (fun z => z = ((), ((some cs, p, u, q, c, ()), dg, bd, dr, k, flagsOf cs.length dr, ())))
    (fun i r hI => by
      obtain ⟨j, rfl, hj, hr, hv⟩ := hI
      unfold DirtyE.R3
      refine led_dif (fun q1 => ?_) (fun q1 => led_x ?_)
      · have hjl : j < cs.length := by omega
        obtain ⟨x, hx, hx2⟩ := hW.w.nat (j / 64)
        have hw : IntKind.wrap .i64 ((j : Int) + 1) = (j : Int) + 1 := wr (by omega) (by omega)
        have a0 : (0 : Int) ≤ ((j / 64 : Nat) : Int) := by omega
        have a1 : ((j / 64 : Nat) : Int) < (dr.length : Int) := by omega
        have a2 : (0 : Int) ≤ ((j % 64 : Nat) : Int) := by omega
        have a3 : (0 : Int) ≤ (j : Int) := by omega
        have a4 : (j : Int) < (r.length : Int) := by omega
        have a5 : j < r.length := by omega
        simp only [tdiv64 j (by omega), tmod64, Int.toNat_natCast, a0, a1, a2, a3, a4, a5, hw, if_true]
        rw [hx, shr_bit hx2 (Nat.mod_lt _ (by decide))]
        refine led_k ⟨_, _, rfl, ⟨j + 1, by omega, by omega, by rw [List.length_set]; exact hr, fun s hs => ?_⟩, by omega⟩
        rw [getD_setP]
        by_cases e : j = s
        · subst e
          rw [if_pos ⟨rfl, a5⟩, bitAt_word hx rfl]
        · rw [if_neg (fun h => e h.1)]
          exact hv s (by omega)
      · obtain rfl : j = cs.length := by omega
        have : r = flagsOf cs.length dr := by
          refine List.ext_getElem (by rw [hr, flagsOf_len]) (fun s h1 h2 => ?_)
          have e1 := hv s (by omega)
          have e2 := flagsOf_get (n := cs.length) (dr := dr) (i := s) (by omega)
          rw [List.getD_eq_getElem?_getD, List.getElem?_eq_getElem h1] at e1
          rw [List.getD_eq_getElem?_getD, List.getElem?_eq_getElem h2] at e2
          exact e1.trans e2.symm
        rw [this]) 0 (List.replicate cs.length false) ⟨0, rfl, by omega, List.length_replicate, fun s hs => by omega⟩
  obtain ⟨z, hz, rfl⟩ := key
  refine DirtyE.is_fn _ _ _ _ _ _ _ _ _ ?_
  unfold DirtyE.run'
  have b0 : (0 : Int) ≤ (cs.length : Int) := by omega
  have b1 : cs.length * 1 ≤ 140737488355328 := by omega
  rw [hS.2]
  simp only [hS.1, Int.toNat_natCast, b0, b1, List.length_replicate, if_true, hz]
theorem PassesE.is (l : Option (List Int)) (dg bd dr : List Int) (p : Int) (u : Bool) (q c : Int) (k : List Int) :
    PassesE.pre l dg bd dr p u q c k = true ∧ PassesE.fn l dg bd dr p u q c k = ((l, dg, bd, dr, p, u, q, c, k, false), p, ()) := PassesE.is_fn _ _ _ _ _ _ _ _ _ rfl
theorem BoundsE.is (l : Option (List Int)) (dg bd dr : List Int) (hb : bd.length ≤ 1048576) (p : Int) (u : Bool) (q c : Int) (k : List Int) :
    BoundsE.pre l dg bd dr p u q c k = true ∧ BoundsE.fn l dg bd dr p u q c k = ((l, dg, bd, dr, p, u, q, c, k, false), bd, ()) := by
  have hp : CloneI.pre bd = true := decide_eq_true (by omega)
  refine BoundsE.is_fn _ _ _ _ _ _ _ _ _ ?_
  unfold BoundsE.run'
  simp only [hp, if_true]
  rfl
end Go.Proofs.YthbojpaghbbnnaaDoor.Z
namespace Go.Proofs.YthbojpaghbbnnaaDoor.Z
open Go Go.RowKit Esx
set_option linter.unusedVariables false
set_option linter.unusedSimpArgs false
theorem LayN.is {n : Nat} {cs : List Int} (hC : Cuts n cs) (hl : cs.length ≤ 65536) : LayN.pre (some cs) = true ∧ LayN.fn (some cs) = ((n : Int), ()) := by
  refine LayN.is_fn _ ?_
  unfold LayN.run'
  have hlast := hC.last
  cases hk : cs.length with
  | zero =>
    rw [hk] at hlast
    simp only [lowC] at hlast
    have e : cs = [] := List.eq_nil_of_length_eq_zero hk
    subst e
    simp [← hlast]
  | succ j =>
    rw [hk] at hlast
    simp only [lowC] at hlast
    have e1 : (((cs.length : Nat) : Int) == 0) = false := by rw [hk, beq_eq_false_iff_ne]; omega
    have hw : IntKind.wrap .i64 (((cs.length : Nat) : Int) - 1) = (j : Int) := by rw [wr (by omega) (by omega)]; omega
    have a1 : (0 : Int) ≤ (j : Int) := by omega
    have a2 : (j : Int) < (cs.length : Int) := by omega
    simp only [Option.isSome_some, Option.getD_some, e1, hw, a1, a2, if_true, Int.toNat_natCast, hlast]
    rfl
theorem RangeL.is {cs : List Int} (hl : cs.length ≤ 65536) {s : Nat} (hs : s < cs.length) : RangeL.pre (some cs) (s : Int) = true ∧ RangeL.fn (some cs) (s : Int) = (lowC cs s, lowC cs (s + 1), ()) := by
  refine RangeL.is_fn _ _ ?_
  unfold RangeL.run'
  have e1 : ¬ ((s : Int) < 0) := by omega
  have e2 : ¬ ((s : Int) ≥ (cs.length : Int)) := by omega
  have a0 : (0 : Int) ≤ (s : Int) := by omega
  have a1 : (s : Int) < (cs.length : Int) := by omega
  cases s with
  | zero =>
    have a3 : (0 : Int) < (cs.length : Int) := by omega
    simp only [Option.isSome_some, Option.getD_some, e1, e2, decide_false, if_true, a3]
    rfl
  | succ s =>
    have e3 : (((s + 1 : Nat) : Int) == 0) = false := by rw [beq_eq_false_iff_ne]; omega
    have hw : IntKind.wrap .i64 (((s + 1 : Nat) : Int) - 1) = (s : Int) := by rw [wr (by omega) (by omega)]; omega
    have a3 : (0 : Int) ≤ (s : Int) := by omega
    have a4 : (s : Int) < (cs.length : Int) := by omega
    simp only [Option.isSome_some, Option.getD_some, e1, e2, e3, decide_false, if_true, a0, a1, a3, a4, hw, Int.toNat_natCast]
    rfl
/-- May these be a vertex's neighbours? -/
def rowB (n v : Int) : Int → List Int → Bool
  | _, [] => true
  | last, u :: t => decide (last < u) && decide (u < n) && decide (u ≠ v) && rowB n v u t
/-- Are these the lists of the vertices? -/
def fitsB (dg : List Int) (n : Int) : List Nat → List (Int × List Int) → Bool
  | [], ls => ls.isEmpty
  | v :: vs, ls => if dg.getD v 0 = 0 then fitsB dg n vs ls else match ls with
    | [] => false
    | x :: ls => decide (x.1 = (v : Int)) && decide ((x.2.length : Int) = dg.getD v 0) && rowB n (v : Int) (-1) x.2 && fitsB dg n vs ls
theorem range'_cons (b k : Nat) : List.range' b (k + 1) = b :: List.range' (b + 1) k := List.range'_succ
theorem fits.is {n : Nat} {cs : List Int} (hC : Cuts n cs) (hl : cs.length ≤ 65536) {dg : List Int} (hn : n ≤ dg.length) (hn2 : n ≤ 1099511627776) (bd dr : List Int) (p : Int) (u : Bool) (q c : Int) (k : List Int) {s : Nat} (hs : s < cs.length) (ls : List (Int × List Int)) (hls : ls.length < 4294967296) (hlt : ∀ i, ((ls.getD i (0, [])).2).length < 4294967296) :
    fits.pre (some cs) dg bd dr p u q c k (s : Int) ls = true ∧ fits.fn (some cs) dg bd dr p u q c k (s : Int) ls = ((some cs, dg, bd, dr, p, u, q, c, k, false), fitsB dg n (List.range' (lowC cs s).toNat ((lowC cs (s + 1)).toNat - (lowC cs s).toNat)) ls, ()) := by
  obtain ⟨N1, N2⟩ := LayN.is hC hl
  obtain ⟨r1, r2⟩ := RangeL.is hl hs
  have b1 := hC.lt hs
  have b2 := hC.low0 (s := s) (by omega)
  have b3 := hC.lown (s := s + 1) (by omega)
  obtain ⟨lo, hlo⟩ : ∃ lo : Nat, lowC cs s = (lo : Int) := ⟨(lowC cs s).toNat, by omega⟩
  obtain ⟨hi, hhi⟩ : ∃ hi : Nat, lowC cs (s + 1) = (hi : Int) := ⟨(lowC cs (s + 1)).toNat, by omega⟩
  rw [hlo, hhi] at b1
  rw [hhi] at b3
  rw [hlo, hhi] at r2 ⊢
  rw [Int.toNat_natCast, Int.toNat_natCast]
  -- the inner loop
  have inner : ∀ (a b : Nat) (ts : List Int), ts.length < 4294967296 → ∃ z, fits.F11 ls (hi : Int) (a : Int) (b : Int) (-1) ts (ts.length : Int) 0 (some cs) p u q c dg bd dr k = some z ∧
      ((z = Sum.inl ((false, ()), ((some cs, p, u, q, c, ()), dg, bd, dr, k, ())) ∧ rowB n (b : Int) (-1) ts = false) ∨ (z = Sum.inr ((ls, (hi : Int), (a : Int), (b : Int), ()), ((some cs, p, u, q, c, ()), dg, bd, dr, k, ())) ∧ rowB n (b : Int) (-1) ts = true)) := fun a b ts hto =>
    fits.F11_inv (lists2 := ls) (hi8 := (hi : Int)) (i9 := (a : Int)) (v10 := (b : Int)) (t70 := ts) (t71 := (ts.length : Int)) (c0x0 := some cs) (c0x4 := p) (c0x5 := u) (c0x6 := q) (c0x7 := c) (r1 := dg) (r2 := bd) (r3 := dr) (r4 := k)
      (fun last i => ∃ j : Nat, i = (j : Int) ∧ j ≤ ts.length ∧ rowB n (b : Int) last (ts.drop j) = rowB n (b : Int) (-1) ts) (fun _ i => ts.length - i.toNat)
      (fun z => (z = Sum.inl ((false, ()), ((some cs, p, u, q, c, ()), dg, bd, dr, k, ())) ∧ rowB n (b : Int) (-1) ts = false) ∨ (z = Sum.inr ((ls, (hi : Int), (a : Int), (b : Int), ()), ((some cs, p, u, q, c, ()), dg, bd, dr, k, ())) ∧ rowB n (b : Int) (-1) ts = true))
      (fun last i hI => by
        obtain ⟨j, rfl, hj, hr⟩ := hI
        unfold fits.R11
        refine led_dif (fun q1 => ?_) (fun q1 => led_x (.inr ⟨rfl, ?_⟩))
        · have hjl : j < ts.length := by omega
          have a0 : (0 : Int) ≤ (j : Int) := by omega
          have hw : IntKind.wrap .i64 ((j : Int) + 1) = (j : Int) + 1 := wr (by omega) (by omega)
          refine led_need a0 (led_need q1 ?_)
          rw [Int.toNat_natCast, N2]
          rw [drop_getD 0 ts j hjl] at hr
          simp only [rowB] at hr
          by_cases h1 : ts.getD j 0 ≤ last
          · rw [decide_eq_true h1]
            refine led_no (by simp) (led_x (.inl ⟨rfl, ?_⟩))
            rw [← hr, decide_eq_false (by omega)]
            simp
          · rw [decide_eq_false h1]
            refine led_yes rfl (led_need N1 ?_)
            by_cases h2 : ts.getD j 0 ≥ (n : Int)
            · rw [decide_eq_true h2]
              refine led_no (by simp) (led_x (.inl ⟨rfl, ?_⟩))
              rw [← hr, decide_eq_false (show ¬ ts.getD j 0 < (n : Int) by omega)]
              simp
            · rw [decide_eq_false h2]
              refine led_yes rfl ?_
              by_cases h3 : ts.getD j 0 = (b : Int)
              · refine led_yes (beq_iff_eq.2 h3) (led_x (.inl ⟨rfl, ?_⟩))
                rw [← hr, decide_eq_false (show ¬ ts.getD j 0 ≠ (b : Int) by omega)]
                simp
              · refine led_no (fun e => h3 (beq_iff_eq.1 e)) ?_
                rw [hw]
                refine led_k ⟨_, _, rfl, ⟨j + 1, by omega, by omega, ?_⟩, by omega⟩
                rw [decide_eq_true (by omega), decide_eq_true (by omega), decide_eq_true h3] at hr
                simpa using hr
        · obtain rfl : j = ts.length := by omega
          rw [List.drop_length] at hr
          rw [← hr]
          rfl) (-1) 0 ⟨0, rfl, by omega, rfl⟩
  have key := fits.F4_inv (lists2 := ls) (hi8 := (hi : Int)) (c0x0 := some cs) (c0x4 := p) (c0x5 := u) (c0x6 := q) (c0x7 := c) (r1 := dg) (r2 := bd) (r3 := dr) (r4 := k)
    (fun i v => ∃ a b : Nat, i = (a : Int) ∧ v = (b : Int) ∧ a ≤ ls.length ∧ b ≤ hi ∧ fitsB dg n (List.range' b (hi - b)) (ls.drop a) = fitsB dg n (List.range' lo (hi - lo)) ls) (fun _ v => hi - v.toNat)
    (fun z => (z = Sum.inl ((false, ()), ((some cs, p, u, q, c, ()), dg, bd, dr, k, ())) ∧ fitsB dg n (List.range' lo (hi - lo)) ls = false) ∨ ∃ a : Nat, z = Sum.inr ((ls, (a : Int), ()), ((some cs, p, u, q, c, ()), dg, bd, dr, k, ())) ∧ ((a : Int) == (ls.length : Int)) = fitsB dg n (List.range' lo (hi - lo)) ls)
    (fun i v hI => by
      obtain ⟨a, b, rfl, rfl, ha, hb, hf⟩ := hI
      unfold fits.R4
      refine led_dif (fun q1 => ?_) (fun q1 => led_x (.inr ⟨a, rfl, ?_⟩))
      · have hbl : b < hi := by omega
        have a0 : (0 : Int) ≤ (b : Int) := by omega
        have a1 : (b : Int) < (dg.length : Int) := by omega
        have a2 : (0 : Int) ≤ (a : Int) := by omega
        have hw : IntKind.wrap .i64 ((b : Int) + 1) = (b : Int) + 1 := wr (by omega) (by omega)
        have hw2 : IntKind.wrap .i64 ((a : Int) + 1) = (a : Int) + 1 := wr (by omega) (by omega)
        have er : List.range' b (hi - b) = b :: List.range' (b + 1) (hi - (b + 1)) := by
          rw [show hi - b = (hi - (b + 1)) + 1 by omega]
          exact range'_cons _ _
        rw [er] at hf
        simp only [fitsB] at hf
        refine led_need a0 (led_need a1 ?_)
        rw [Int.toNat_natCast, Int.toNat_natCast]
        by_cases h0 : dg.getD b 0 = 0
        · rw [if_pos h0] at hf
          refine led_yes (beq_iff_eq.2 h0) ?_
          rw [hw]
          exact led_k ⟨_, _, rfl, ⟨a, b + 1, rfl, by omega, ha, by omega, hf⟩, by omega⟩
        · rw [if_neg h0] at hf
          refine led_no (fun e => h0 (beq_iff_eq.1 e)) ?_
          by_cases hal : a = ls.length
          · have e : ((a : Int) == (ls.length : Int)) = true := by rw [hal]; simp
            rw [e]
            refine led_no (by simp) (led_x (.inl ⟨rfl, ?_⟩))
            rw [← hf, hal, List.drop_length]
          · have hal : a < ls.length := by omega
            have e : ((a : Int) == (ls.length : Int)) = false := by rw [beq_eq_false_iff_ne]; omega
            have a3 : (a : Int) < (ls.length : Int) := by omega
            rw [e]
            refine led_yes rfl (led_need a2 (led_need a3 ?_))
            rw [drop_getD (0, []) ls a hal] at hf
            simp only at hf
            by_cases h1 : (ls.getD a (0, [])).1 = (b : Int)
            · have e1 : ((ls.getD a (0, [])).1 != (b : Int)) = false := by rw [h1]; simp
              rw [e1]
              refine led_yes rfl (led_need a2 (led_need a3 (led_need a0 (led_need a1 ?_))))
              by_cases h2 : (((ls.getD a (0, [])).2.length : Nat) : Int) = dg.getD b 0
              · refine led_no (fun e => (bne_iff_ne.1 e) h2) (led_need a2 (led_need a3 ?_))
                obtain ⟨z, hz, hq⟩ := inner a b (ls.getD a (0, [])).2 (hlt a)
                rw [decide_eq_true h1, decide_eq_true h2] at hf
                rcases hq with ⟨rfl, hq⟩ | ⟨rfl, hq⟩
                · refine led_eq (fun R k kx => by rw [hz]) (led_x (.inl ⟨rfl, ?_⟩))
                  rw [← hf, hq]
                  simp
                · refine led_eq (fun R k kx => by rw [hz]) ?_
                  simp only
                  rw [hw, hw2]
                  refine led_k ⟨_, _, rfl, ⟨a + 1, b + 1, by omega, by omega, by omega, by omega, ?_⟩, by omega⟩
                  rw [← hf, hq]
                  simp
              · refine led_yes (bne_iff_ne.2 h2) (led_x (.inl ⟨rfl, ?_⟩))
                rw [← hf, decide_eq_false h2]
                simp
            · have e1 : ((ls.getD a (0, [])).1 != (b : Int)) = true := bne_iff_ne.2 h1
              rw [e1]
              refine led_no (by simp) (led_x (.inl ⟨rfl, ?_⟩))
              rw [← hf, decide_eq_false h1]
              simp
      · obtain rfl : b = hi := by omega
        rw [Nat.sub_self] at hf
        simp only [List.range'_zero, fitsB] at hf
        rw [← hf]
        cases hd : (ls.drop a) with
        | nil =>
          have := List.drop_eq_nil_iff.1 hd
          rw [show a = ls.length by omega]
          simp
        | cons x t =>
          have : a ≠ ls.length := fun h => by rw [h, List.drop_length] at hd; cases hd
          rw [beq_eq_false_iff_ne.2 (by omega)]
          rfl) 0 (lo : Int) ⟨0, lo, rfl, rfl, by omega, by omega, rfl⟩
  obtain ⟨z, hz, hq⟩ := key
  refine fits.is_fn _ _ _ _ _ _ _ _ _ _ _ ?_
  unfold fits.run'
  rw [r2]
  simp only [r1, if_true]
  rw [hz]
  rcases hq with ⟨rfl, hq⟩ | ⟨a, rfl, hq⟩
  · rw [hq]
  · simp only [hq]
end Go.Proofs.YthbojpaghbbnnaaDoor.Z
namespace Go.Proofs.YthbojpaghbbnnaaDoor.Z
open Go Go.RowKit Esx
set_option linter.unusedVariables false
set_option linter.unusedSimpArgs false
theorem layNew.is {n : Nat} {cs : List Int} (hC : Cuts n cs) (hn : n ≤ 16777216) (hl : cs.length ≤ 1000) : layNew.pre (n : Int) cs = true ∧ layNew.fn (n : Int) cs = (some cs, 0, ()) := by
  have key := layNew.F5_inv (n0 := (n : Int)) (cuts1 := cs) (t15 := cs) (t16 := (cs.length : Int)) (fun last i => ∃ j : Nat, i = (j : Int) ∧ j ≤ cs.length ∧ last = lowC cs j) (fun _ i => cs.length - i.toNat)
    (fun z => z = Sum.inr (((n : Int), cs, (n : Int), ()), ())) (fun last i hI => by
      obtain ⟨j, rfl, hj, rfl⟩ := hI
      unfold layNew.R5
      refine led_dif (fun q1 => ?_) (fun q1 => led_x ?_)
      · have hjl : j < cs.length := by omega
        have hw : IntKind.wrap .i64 ((j : Int) + 1) = (j : Int) + 1 := wr (by omega) (by omega)
        have h1 := hC.lt hjl
        refine led_need (by omega) (led_need q1 ?_)
        rw [Int.toNat_natCast, decide_eq_false (show ¬ cs.getD j 0 ≤ lowC cs j from by
          have : lowC cs (j + 1) = cs.getD j 0 := rfl
          omega), hw]
        exact led_no (by simp) (led_k ⟨_, _, rfl, ⟨j + 1, by omega, by omega, rfl⟩, by omega⟩)
      · obtain rfl : j = cs.length := by omega
        rw [hC.last]) 0 0 ⟨0, rfl, by omega, rfl⟩
  obtain ⟨z, hz, rfl⟩ := key
  refine layNew.is_fn _ _ ?_
  unfold layNew.run'
  have e1 : ¬ ((n : Int) < 0) := by omega
  have e2 : ¬ ((n : Int) > 16777216) := by omega
  have e3 : ¬ ((cs.length : Int) > 1000) := by omega
  have e4 : ((n : Int) != (n : Int)) = false := by simp
  have e5 : cs.length * 8 ≤ 140737488355328 := by omega
  have e6 : (0 + cs.length) * 8 ≤ 140737488355328 := by omega
  rw [hz]
  simp only [e1, e2, e3, e4, e5, e6, decide_false, if_true, Int.toNat_natCast, List.nil_append, Bool.false_eq_true, if_false]
/-- May these be degrees? -/
def mayB (n : Nat) (dg : List Int) : Bool := dg.all (fun d => decide (0 ≤ d) && decide (d < (n : Int))) && decide (dg.length = n)
theorem may.is {n : Nat} {cs : List Int} (hC : Cuts n cs) (hl : cs.length ≤ 65536) {dg : List Int} (hd : dg.length ≤ 1099511627776) : may.pre (some cs) dg = true ∧ may.fn (some cs) dg = (mayB n dg, ()) := by
  obtain ⟨N1, N2⟩ := LayN.is hC hl
  have key := may.F2_inv (l0 := some cs) (degrees1 := dg) (t7 := dg) (t8 := (dg.length : Int)) (fun i => ∃ j : Nat, i = (j : Int) ∧ j ≤ dg.length ∧ ∀ k, k < j → 0 ≤ dg.getD k 0 ∧ dg.getD k 0 < (n : Int)) (fun i => dg.length - i.toNat)
    (fun z => (z = Sum.inl ((false, ()), ()) ∧ ∃ k, k < dg.length ∧ ¬ (0 ≤ dg.getD k 0 ∧ dg.getD k 0 < (n : Int))) ∨ (z = Sum.inr ((some cs, dg, ()), ()) ∧ ∀ k, k < dg.length → 0 ≤ dg.getD k 0 ∧ dg.getD k 0 < (n : Int))) (fun i hI => by
      obtain ⟨j, rfl, hj, hv⟩ := hI
      unfold may.R2
      refine led_dif (fun q1 => ?_) (fun q1 => led_x (.inr ⟨rfl, ?_⟩))
      · have hjl : j < dg.length := by omega
        have hw : IntKind.wrap .i64 ((j : Int) + 1) = (j : Int) + 1 := wr (by omega) (by omega)
        refine led_need (by omega) (led_need q1 ?_)
        rw [Int.toNat_natCast, N2]
        by_cases h1 : dg.getD j 0 < 0
        · rw [decide_eq_true h1]
          exact led_no (by simp) (led_x (.inl ⟨rfl, j, hjl, by omega⟩))
        · rw [decide_eq_false h1]
          refine led_yes rfl (led_need N1 ?_)
          by_cases h2 : dg.getD j 0 ≥ (n : Int)
          · rw [decide_eq_true h2]
            exact led_yes rfl (led_x (.inl ⟨rfl, j, hjl, by omega⟩))
          · rw [decide_eq_false h2, hw]
            refine led_no (by simp) (led_k ⟨_, rfl, ⟨j + 1, by omega, by omega, fun k hk => ?_⟩, by omega⟩)
            by_cases e : k = j
            · subst e; omega
            · exact hv k (by omega)
      · obtain rfl : j = dg.length := by omega
        exact hv) 0 ⟨0, rfl, by omega, fun k hk => by omega⟩
  obtain ⟨z, hz, hq⟩ := key
  refine may.is_fn _ _ ?_
  unfold may.run'
  rw [hz]
  unfold mayB
  rcases hq with ⟨rfl, k, hk, hn⟩ | ⟨rfl, hv⟩
  · have : dg.all (fun d => decide (0 ≤ d) && decide (d < (n : Int))) = false := by
      rw [List.all_eq_false]
      refine ⟨dg.getD k 0, mem_getD 0 dg k hk, ?_⟩
      simp only [Bool.and_eq_true, decide_eq_true_eq]
      exact hn
    simp only [this, Bool.false_and]
  · have : dg.all (fun d => decide (0 ≤ d) && decide (d < (n : Int))) = true := by
      rw [List.all_eq_true]
      intro x hx
      obtain ⟨k, hk, rfl⟩ := (mem_idx 0).1 hx
      have := hv k hk
      simp only [Bool.and_eq_true, decide_eq_true_eq]
      exact this
    simp only [this, N1, N2, if_true, Bool.true_and]
    have e : ((dg.length : Int) == (n : Int)) = decide (dg.length = n) := by
      by_cases h : dg.length = n
      · rw [h]; simp
      · rw [decide_eq_false h, beq_eq_false_iff_ne]; omega
    rw [e]
theorem num17.is (e : Int) : num17.pre e = true ∧ num17.fn e = (e, ()) := num17.is_fn _ rfl
theorem getD_out {α : Type} {d : α} {l : List α} {i : Nat} (h : l.length ≤ i) : l.getD i d = d := by
  rw [List.getD_eq_getElem?_getD, List.getElem?_eq_none h]
  rfl
end Go.Proofs.YthbojpaghbbnnaaDoor.Z
namespace Go.Proofs.YthbojpaghbbnnaaDoor.Z
open Go Go.RowKit Esx
set_option linter.unusedVariables false
set_option linter.unusedSimpArgs false
abbrev Ws := List Int × Int × List Int
def markW (cs : List Int) (ts : List Int) (v s : Nat) (bd : List Int) (h old : Int) (dr : List Int) : List Int := ts.foldl (fun dr u => if cross cs v s bd h old u = true then setBit dr (shN cs u) else dr) dr
def rStepW (cs : List Int) (s : Nat) (st : Ws) (x : Int × List Int) : Ws :=
  if Hx.hOf (Hx.vals x.2 st.1) (st.1.getD x.1.toNat 0) ≥ st.1.getD x.1.toNat 0 then st
  else (st.1.set x.1.toNat (Hx.hOf (Hx.vals x.2 st.1) (st.1.getD x.1.toNat 0)), st.2.1 + 1, markW cs x.2 x.1.toNat s (st.1.set x.1.toNat (Hx.hOf (Hx.vals x.2 st.1) (st.1.getD x.1.toNat 0))) (Hx.hOf (Hx.vals x.2 st.1) (st.1.getD x.1.toNat 0)) (st.1.getD x.1.toNat 0) st.2.2)
def readW (cs : List Int) (s : Nat) (ls : List (Int × List Int)) (st : Ws) : Ws := ls.foldl (rStepW cs s) st
theorem readW_take {cs : List Int} {s : Nat} {ls : List (Int × List Int)} {st : Ws} {i : Nat} (h : i < ls.length) : readW cs s (ls.take (i + 1)) st = rStepW cs s (readW cs s (ls.take i) st) (ls.getD i (0, [])) := by
  unfold readW
  rw [List.take_succ_eq_append_getElem h, List.foldl_append, List.getD_eq_getElem?_getD, List.getElem?_eq_getElem h]
  rfl
/-- Words of flags for so many shards. -/
structure Wn (m : Nat) (dr : List Int) : Prop where
  w : W64 dr
  len : dr.length = m / 64 + 1
theorem Wn.lt {m : Nat} {dr : List Int} (h : Wn m dr) {s : Nat} (hs : s ≤ m) : s < 64 * dr.length := by rw [h.len]; omega
theorem Wn.setBit {m : Nat} {dr : List Int} (h : Wn m dr) (s : Nat) : Wn m (setBit dr s) := ⟨h.w.setBit s, by rw [setBit_len, h.len]⟩
theorem Wn.clrBit {m : Nat} {dr : List Int} (h : Wn m dr) (s : Nat) : Wn m (clrBit dr s) := ⟨h.w.clrBit s, by rw [clrBit_len, h.len]⟩
theorem bit_setF {m : Nat} {dr : List Int} (h : Wn m dr) {s : Nat} (hs : s ≤ m) : bitAt (setBit dr s) = fun t => bitAt dr t || decide (t = s) := funext fun t => bit_set (h.lt hs)
theorem markW_ok (cs : List Int) (v s : Nat) (bd : List Int) (h old : Int) {m : Nat} : ∀ (ts : List Int) {dr : List Int}, Wn m dr → (∀ u ∈ ts, shN cs u ≤ m) → Wn m (markW cs ts v s bd h old dr) ∧ bitAt (markW cs ts v s bd h old dr) = markF cs ts v s bd h old (bitAt dr)
  | [], dr, hw, _ => ⟨hw, funext fun t => by unfold markW markF; simp⟩
  | u :: ts, dr, hw, hu => by
    have h1 : Wn m (if cross cs v s bd h old u = true then setBit dr (shN cs u) else dr) := by
      split
      · exact hw.setBit _
      · exact hw
    obtain ⟨g1, g2⟩ := markW_ok cs v s bd h old ts h1 (fun x hx => hu x (List.mem_cons_of_mem _ hx))
    refine ⟨g1, g2.trans (funext fun t => ?_)⟩
    unfold markF
    rw [List.any_cons]
    by_cases c : cross cs v s bd h old u = true
    · rw [if_pos c, bit_setF hw (hu u List.mem_cons_self), c]
      simp only [Bool.true_and]
      by_cases e : t = shN cs u
      · simp [e]
      · have e' : ¬ shN cs u = t := fun k => e k.symm
        simp [e, e']
    · rw [if_neg c]
      have c' : cross cs v s bd h old u = false := by simpa using c
      rw [c', Bool.false_and, Bool.false_or]
theorem rStepW_ok {cs : List Int} {s m : Nat} {bd : List Int} {f : Int} {dr : List Int} {x : Int × List Int} (hw : Wn m dr) (hx : ∀ u ∈ x.2, shN cs u ≤ m) :
    Wn m (rStepW cs s (bd, f, dr) x).2.2 ∧ ((rStepW cs s (bd, f, dr) x).1, (rStepW cs s (bd, f, dr) x).2.1, bitAt (rStepW cs s (bd, f, dr) x).2.2) = rList cs s (bd, f, bitAt dr) x := by
  unfold rStepW rList rStep
  simp only
  split
  · exact ⟨hw, rfl⟩
  · obtain ⟨g1, g2⟩ := markW_ok cs x.1.toNat s (bd.set x.1.toNat (Hx.hOf (Hx.vals x.2 bd) (bd.getD x.1.toNat 0))) (Hx.hOf (Hx.vals x.2 bd) (bd.getD x.1.toNat 0)) (bd.getD x.1.toNat 0) x.2 hw hx
    refine ⟨g1, ?_⟩
    simp only [g2]
theorem readW_ok {cs : List Int} {s m : Nat} : ∀ (ls : List (Int × List Int)) {bd : List Int} {f : Int} {dr : List Int}, Wn m dr → (∀ x ∈ ls, ∀ u ∈ x.2, shN cs u ≤ m) →
    Wn m (readW cs s ls (bd, f, dr)).2.2 ∧ ((readW cs s ls (bd, f, dr)).1, (readW cs s ls (bd, f, dr)).2.1, bitAt (readW cs s ls (bd, f, dr)).2.2) = readL cs s ls (bd, f, bitAt dr)
  | [], bd, f, dr, hw, _ => ⟨hw, rfl⟩
  | x :: ls, bd, f, dr, hw, hx => by
    obtain ⟨g1, g2⟩ := rStepW_ok (cs := cs) (s := s) (bd := bd) (f := f) hw (hx x List.mem_cons_self)
    have ih := readW_ok (cs := cs) (s := s) ls (bd := (rStepW cs s (bd, f, dr) x).1) (f := (rStepW cs s (bd, f, dr) x).2.1) g1 (fun y hy => hx y (List.mem_cons_of_mem _ hy))
    unfold readL at ih ⊢
    rw [List.foldl_cons, ← g2]
    exact ih
/-- Numbers stay between 0 and what they were. -/
structure Bds (n : Nat) (b0 b : List Int) : Prop where
  len : b.length = n
  lo : ∀ j, 0 ≤ b.getD j 0
  hi : ∀ j, b.getD j 0 ≤ b0.getD j 0
theorem rStepW_bds {cs : List Int} {s n : Nat} {b0 : List Int} {st : Ws} {x : Int × List Int} (h : Bds n b0 st.1) : Bds n b0 (rStepW cs s st x).1 := by
  unfold rStepW
  split
  · exact h
  · rename_i hlt
    refine ⟨by simpa using h.len, fun j => ?_, fun j => ?_⟩
    · simp only
      rw [Hx.getD_set]
      split
      · exact Hx.hOf_nonneg _ _
      · exact h.lo j
    · simp only
      rw [Hx.getD_set]
      split
      · rename_i e
        have e1 := e.1
        have := h.hi j
        rw [e1] at hlt ⊢
        omega
      · exact h.hi j
theorem readW_bds {cs : List Int} {s n : Nat} {b0 : List Int} : ∀ (ls : List (Int × List Int)) {st : Ws}, Bds n b0 st.1 → Bds n b0 (readW cs s ls st).1
  | [], _, h => h
  | x :: ls, st, h => by
    have := readW_bds (cs := cs) (s := s) ls (rStepW_bds (cs := cs) (s := s) (x := x) h)
    unfold readW at this ⊢
    rw [List.foldl_cons]
    exact this
theorem rStepW_falls (cs : List Int) (s : Nat) (st : Ws) (x : Int × List Int) : st.2.1 ≤ (rStepW cs s st x).2.1 ∧ (rStepW cs s st x).2.1 ≤ st.2.1 + 1 := by
  unfold rStepW
  split
  · omega
  · simp only; omega
theorem readW_falls (cs : List Int) (s : Nat) : ∀ (ls : List (Int × List Int)) (st : Ws), st.2.1 ≤ (readW cs s ls st).2.1 ∧ (readW cs s ls st).2.1 ≤ st.2.1 + ls.length
  | [], st => by
    show st.2.1 ≤ st.2.1 ∧ st.2.1 ≤ st.2.1 + (0 : Nat)
    omega
  | x :: ls, st => by
    have := readW_falls cs s ls (rStepW cs s st x)
    have := rStepW_falls cs s st x
    unfold readW at *
    rw [List.foldl_cons, List.length_cons]
    omega
end Go.Proofs.YthbojpaghbbnnaaDoor.Z
namespace Go.Proofs.YthbojpaghbbnnaaDoor.Z
open Go Go.RowKit Esx
set_option linter.unusedVariables false
set_option linter.unusedSimpArgs false
theorem rowB_mem {n v : Int} : ∀ (l : List Int) {last : Int}, -1 ≤ last → rowB n v last l = true → ∀ u ∈ l, 0 ≤ u ∧ u < n ∧ u ≠ v
  | [], _, _, _, u, hu => by cases hu
  | x :: l, last, h0, h, u, hu => by
    simp only [rowB, Bool.and_eq_true, decide_eq_true_eq] at h
    obtain ⟨⟨⟨h1, h2⟩, h3⟩, h4⟩ := h
    rcases List.mem_cons.1 hu with rfl | hu
    · exact ⟨by omega, h2, h3⟩
    · exact rowB_mem l (by omega) h4 u hu
theorem fitsB_mem {dg : List Int} {n : Int} : ∀ (vs : List Nat) (ls : List (Int × List Int)), fitsB dg n vs ls = true → ls.length ≤ vs.length ∧ ∀ x ∈ ls, (∃ v ∈ vs, x.1 = (v : Int) ∧ (x.2.length : Int) = dg.getD v 0) ∧ ∀ u ∈ x.2, 0 ≤ u ∧ u < n
  | [], ls, h => by
    simp only [fitsB, List.isEmpty_iff] at h
    subst h
    exact ⟨Nat.le_refl _, fun x hx => by cases hx⟩
  | v :: vs, ls, h => by
    simp only [fitsB] at h
    by_cases h0 : dg.getD v 0 = 0
    · rw [if_pos h0] at h
      obtain ⟨g1, g2⟩ := fitsB_mem vs ls h
      refine ⟨by simp; omega, fun x hx => ?_⟩
      obtain ⟨⟨w, hw, e⟩, g3⟩ := g2 x hx
      exact ⟨⟨w, List.mem_cons_of_mem _ hw, e⟩, g3⟩
    · rw [if_neg h0] at h
      cases ls with
      | nil => cases h
      | cons y ls =>
        simp only [Bool.and_eq_true, decide_eq_true_eq] at h
        obtain ⟨⟨⟨h1, h2⟩, h3⟩, h4⟩ := h
        obtain ⟨g1, g2⟩ := fitsB_mem vs ls h4
        refine ⟨by simp; omega, fun x hx => ?_⟩
        rcases List.mem_cons.1 hx with rfl | hx
        · exact ⟨⟨v, List.mem_cons_self, h1, h2⟩, fun u hu => by
            have := rowB_mem _ (Int.le_refl _) h3 u hu
            exact ⟨this.1, this.2.1⟩⟩
        · obtain ⟨⟨w, hw, e⟩, g3⟩ := g2 x hx
          exact ⟨⟨w, List.mem_cons_of_mem _ hw, e⟩, g3⟩
theorem nb_sorted (G : Gr) (v : Nat) : (up (G.nb v)).Pairwise (· < ·) := by
  unfold up Gr.nb
  rw [List.pairwise_map]
  refine List.Pairwise.imp (R := (· < ·)) (fun h => by omega) (List.Pairwise.filter _ ?_)
  exact List.pairwise_lt_range
end Go.Proofs.YthbojpaghbbnnaaDoor.Z
namespace Go.Proofs.YthbojpaghbbnnaaDoor.Z
open Go Go.RowKit Esx
set_option linter.unusedVariables false
set_option linter.unusedSimpArgs false
def zeroW (m : Nat) : List Int := List.replicate (m / 64 + 1) 0
theorem zeroW_get (m i : Nat) : (zeroW m).getD i 0 = 0 := by
  unfold zeroW
  rw [List.getD_eq_getElem?_getD, List.getElem?_replicate]
  split <;> rfl
theorem zeroW_ok (m : Nat) : Wn m (zeroW m) := ⟨fun i => by rw [zeroW_get]; decide, by simp [zeroW]⟩
theorem zeroW_bit (m t : Nat) : bitAt (zeroW m) t = false := by
  unfold bitAt
  rw [zeroW_get]
  exact Nat.zero_testBit _
/-- Marks, one after another: of those that f says, at g. -/
def marks (f : Nat → Bool) (g : Nat → Nat) (k : Nat) (dr : List Int) : List Int := (List.range k).foldl (fun dr v => if f v = true then setBit dr (g v) else dr) dr
theorem marks_succ (f : Nat → Bool) (g : Nat → Nat) (k : Nat) (dr : List Int) : marks f g (k + 1) dr = if f k = true then setBit (marks f g k dr) (g k) else marks f g k dr := by
  unfold marks
  rw [List.range_succ, List.foldl_append]
  rfl
theorem marks_ok {f : Nat → Bool} {g : Nat → Nat} {m : Nat} {dr : List Int} (h : Wn m dr) : ∀ k, (∀ v, v < k → g v ≤ m) → Wn m (marks f g k dr) ∧ ∀ t, bitAt (marks f g k dr) t = true ↔ (bitAt dr t = true ∨ ∃ v, v < k ∧ f v = true ∧ g v = t)
  | 0, _ => ⟨h, fun t => ⟨fun q => .inl q, fun q => q.elim id (fun ⟨v, hv, _⟩ => absurd hv (Nat.not_lt_zero v))⟩⟩
  | k + 1, hg => by
    obtain ⟨h1, h2⟩ := marks_ok (f := f) h k (fun v hv => hg v (by omega))
    rw [marks_succ]
    by_cases c : f k = true
    · rw [if_pos c]
      refine ⟨h1.setBit _, fun t => ?_⟩
      rw [bit_setF h1 (hg k (by omega))]
      simp only [Bool.or_eq_true, decide_eq_true_eq]
      rw [h2]
      constructor
      · rintro ((q | ⟨v, q1, q2, q3⟩) | q)
        · exact .inl q
        · exact .inr ⟨v, by omega, q2, q3⟩
        · exact .inr ⟨k, by omega, c, q.symm⟩
      · rintro (q | ⟨v, q1, q2, q3⟩)
        · exact .inl (.inl q)
        · by_cases e : v = k
          · subst e; exact .inr q3.symm
          · exact .inl (.inr ⟨v, by omega, q2, q3⟩)
    · rw [if_neg c]
      refine ⟨h1, fun t => ?_⟩
      rw [h2]
      constructor
      · rintro (q | ⟨v, q1, q2, q3⟩)
        · exact .inl q
        · exact .inr ⟨v, by omega, q2, q3⟩
      · rintro (q | ⟨v, q1, q2, q3⟩)
        · exact .inl q
        · by_cases e : v = k
          · subst e; exact absurd q2 c
          · exact .inr ⟨v, by omega, q2, q3⟩
/-- The flags of a search that begins with these degrees. -/
def newW (cs dg : List Int) : List Int := marks (fun v => decide (dg.getD v 0 > 0)) (fun v => shN cs (v : Nat)) dg.length (zeroW cs.length)
/-- The flags of a search that goes on from these. -/
def fromW (m : Nat) (fl : List Bool) : List Int := marks (fun v => fl.getD v false) (fun v => v) fl.length (zeroW m)
theorem newW_ok {n : Nat} {cs dg : List Int} (hC : Cuts n cs) (hd : dg.length = n) : Wn cs.length (newW cs dg) ∧ ∀ t, bitAt (newW cs dg) t = true ↔ ∃ v, v < n ∧ 0 < dg.getD v 0 ∧ shN cs (v : Nat) = t := by
  obtain ⟨h1, h2⟩ := marks_ok (f := fun v => decide (dg.getD v 0 > 0)) (g := fun v => shN cs (v : Nat)) (zeroW_ok cs.length) dg.length (fun v hv => Nat.le_of_lt (sh_at hC (by omega) (by omega)).1)
  refine ⟨h1, fun t => (h2 t).trans ?_⟩
  rw [zeroW_bit, hd]
  simp
theorem newW_in {n : Nat} {cs dg : List Int} (hC : Cuts n cs) (hd : dg.length = n) : In cs (bitAt (newW cs dg)) := fun t ht => by
  cases hb : bitAt (newW cs dg) t with
  | false => rfl
  | true =>
    obtain ⟨v, hv, _, e⟩ := ((newW_ok hC hd).2 t).1 hb
    have := (sh_at hC (v := (v : Int)) (by omega) (by omega)).1
    omega
theorem fromW_ok {m : Nat} {fl : List Bool} (hl : fl.length = m) : Wn m (fromW m fl) ∧ ∀ t, bitAt (fromW m fl) t = fl.getD t false := by
  obtain ⟨h1, h2⟩ := marks_ok (f := fun v => fl.getD v false) (g := fun v => v) (zeroW_ok m) fl.length (fun v hv => by omega)
  refine ⟨h1, fun t => ?_⟩
  rw [Bool.eq_iff_iff]
  refine (h2 t).trans ?_
  rw [zeroW_bit]
  constructor
  · rintro (q | ⟨v, _, q2, q3⟩)
    · cases q
    · rw [← q3]; exact q2
  · intro q
    refine .inr ⟨t, Nat.not_le.1 fun k => ?_, q, rfl⟩
    rw [List.getD_eq_getElem?_getD, List.getElem?_eq_none k] at q
    cases q
end Go.Proofs.YthbojpaghbbnnaaDoor.Z
namespace Go.Proofs.YthbojpaghbbnnaaDoor.Z
open Go Go.RowKit Esx
set_option linter.unusedVariables false
set_option linter.unusedSimpArgs false
/-- Is a flag up? -/
def dirtyW (dr : List Int) : Bool := decide (¬ leastN dr 0 < 0)
theorem dirtyW_iff (dr : List Int) : dirtyW dr = true ↔ ∃ t, bitAt dr t = true := by
  unfold dirtyW
  rw [decide_eq_true_eq]
  rcases least_cases dr 0 with ⟨h1, h2⟩ | ⟨s, h1, h2⟩
  · rw [h1]
    constructor
    · intro h; exact absurd (by decide) h
    · rintro ⟨t, ht⟩
      rw [h2 t (Nat.zero_le _)] at ht; cases ht
  · rw [h1]
    exact ⟨fun _ => ⟨s, h2.bit⟩, fun _ => by omega⟩
theorem Wn.wds {m : Nat} {dr : List Int} (h : Wn m dr) (hm : m ≤ 4194240) : Wds dr := ⟨h.w, by have := h.len; omega⟩
end Go.Proofs.YthbojpaghbbnnaaDoor.Z
namespace Go.Proofs.YthbojpaghbbnnaaDoor.Z
open Go Go.RowKit Esx
set_option linter.unusedVariables false
set_option linter.unusedSimpArgs false
theorem bothK_same {R : Type} (x : Option R) : bothK x x = x := bothK_of rfl rfl
theorem begun.is {cs : List Int} (hl : cs.length ≤ 65536) {dg bd : List Int} (hd : dg.length ≤ 1048576) (hb : bd.length ≤ 1048576) :
    begun.pre (some cs) dg bd = true ∧ begun.fn (some cs) dg bd = (some (some cs, dg, bd, zeroW cs.length, 0, false, 0, -1, [], false), ()) := by
  have hS : Shards.pre (some cs) = true ∧ Shards.fn (some cs) = ((cs.length : Int), ()) := Shards.is_fn _ rfl
  have p1 : CloneI.pre dg = true := decide_eq_true (by omega)
  have p2 : CloneI.pre bd = true := decide_eq_true (by omega)
  refine begun.is_fn _ _ _ ?_
  unfold begun.run'
  have e1 : IntKind.wrap .i64 (IntKind.wrap .i64 (Int.tdiv (cs.length : Int) 64) + 1) = ((cs.length / 64 + 1 : Nat) : Int) := by
    rw [tdiv64 _ (by omega), wr (by omega) (by omega)]
    push_cast
    rfl
  have e2 : (0 : Int) ≤ ((cs.length / 64 + 1 : Nat) : Int) := by omega
  have e3 : (cs.length / 64 + 1) * 8 ≤ 140737488355328 := by omega
  rw [hS.2]
  simp only [p1, p2, hS.1, e1, e2, e3, Int.toNat_natCast, if_true]
  rfl
theorem Shard.is {n : Nat} {cs : List Int} (hC : Cuts n cs) (hl : cs.length ≤ 65536) {v : Int} (h0 : 0 ≤ v) (hn : v < n) : Shard.pre (some cs) v = true ∧ Shard.fn (some cs) v = ((shN cs v : Int), ()) := by
  refine ⟨?_, ?_⟩
  · unfold Shard.pre
    exact and_need (and_need rfl (rises_iff.2 hC.rise)) (decide_eq_true (by show cs.length ≤ 4294967296; omega))
  · have hlast := hC.last
    have hk : 0 < cs.length := Nat.pos_of_ne_zero fun e => by
      rw [e] at hlast
      simp only [lowC] at hlast
      omega
    have e : cs.getD (cs.length - 1) 0 = (n : Int) := by
      rw [← hlast]
      obtain ⟨j, hj⟩ : ∃ j, cs.length = j + 1 := ⟨cs.length - 1, by omega⟩
      rw [hj]
      rfl
    show (shardOf cs v, ()) = _
    unfold shardOf
    rw [e, if_pos ⟨h0, hn⟩]
    rfl
theorem NewE.is {n : Nat} {cs : List Int} (hC : Cuts n cs) (hl : cs.length ≤ 65536) {dg : List Int} (hd : dg.length ≤ 1048576) :
    NewE.pre (some cs) dg = true ∧ NewE.fn (some cs) dg = if mayB n dg = true then (some (some cs, dg, dg, newW cs dg, 0, false, 0, -1, [], false), 0, ()) else (none, 172, ()) := by
  obtain ⟨m1, m2⟩ := may.is hC hl (dg := dg) (by omega)
  obtain ⟨b1, b2⟩ := begun.is hl hd hd
  refine NewE.is_fn _ _ ?_
  unfold NewE.run'
  rw [m2]
  by_cases hm : mayB n dg = true
  · have hlen : dg.length = n := by
      unfold mayB at hm
      rw [Bool.and_eq_true, decide_eq_true_eq] at hm
      exact hm.2
    have hrng : ∀ v, v < n → 0 ≤ dg.getD v 0 ∧ dg.getD v 0 < (n : Int) := fun v hv => by
      unfold mayB at hm
      rw [Bool.and_eq_true, List.all_eq_true] at hm
      have := hm.1 _ (mem_getD 0 dg v (by omega))
      simpa using this
    have key := NewE.F5_inv (l0 := some cs) (t17 := dg) (t18 := (dg.length : Int))
      (fun i l p u q c r1 r2 r3 r4 => ∃ j : Nat, i = (j : Int) ∧ j ≤ dg.length ∧ l = some cs ∧ p = 0 ∧ u = false ∧ q = 0 ∧ c = -1 ∧ dg = r1 ∧ dg = r2 ∧ r3 = marks (fun v => decide (dg.getD v 0 > 0)) (fun v => shN cs (v : Nat)) j (zeroW cs.length) ∧ r4 = [])
      (fun i _ _ _ _ _ _ _ _ _ => dg.length - i.toNat)
      (fun z => z = ((), ((some cs, 0, false, 0, -1, ()), dg, dg, newW cs dg, [], ())))
      (fun i l p u q c r1 r2 r3 r4 hI => by
        obtain ⟨j, rfl, hj, rfl, rfl, rfl, rfl, rfl, rfl, rfl, rfl, rfl⟩ := hI
        unfold NewE.R5
        refine led_dif (fun q1 => ?_) (fun q1 => led_x ?_)
        · have hjl : j < dg.length := by omega
          have hw : IntKind.wrap .i64 ((j : Int) + 1) = (j : Int) + 1 := wr (by omega) (by omega)
          obtain ⟨s1, s2⟩ := Shard.is hC hl (v := (j : Int)) (by omega) (by omega)
          have hsh := (sh_at hC (v := (j : Int)) (by omega) (by omega)).1
          have hW := (marks_ok (f := fun v => decide (dg.getD v 0 > 0)) (g := fun v => shN cs (v : Nat)) (zeroW_ok cs.length) j (fun v hv => Nat.le_of_lt (sh_at hC (by omega) (by omega)).1)).1
          obtain ⟨k1, k2⟩ := mark.is (hW.wds (by omega)) (some cs) dg dg 0 false 0 (-1) [] (s := shN cs (j : Int)) (hW.lt (Nat.le_of_lt hsh))
          refine led_need (by omega) (led_need q1 ?_)
          rw [Int.toNat_natCast, hw]
          refine led_dif (fun c => led_need s1 ?_) (fun c => ?_)
          · rw [s2]
            refine led_need k1 ?_
            rw [k2]
            simp only [letZ]
            refine led_k ⟨_, _, _, _, _, _, _, _, _, _, rfl, ⟨j + 1, by omega, by omega, rfl, rfl, rfl, rfl, rfl, rfl, rfl, ?_, rfl⟩, by omega⟩
            rw [marks_succ, if_pos (decide_eq_true c)]
          · refine led_k ⟨_, _, _, _, _, _, _, _, _, _, rfl, ⟨j + 1, by omega, by omega, rfl, rfl, rfl, rfl, rfl, rfl, rfl, ?_, rfl⟩, by omega⟩
            rw [marks_succ, if_neg (by simpa using c)]
        · obtain rfl : j = dg.length := by omega
          rfl) 0 (some cs) 0 false 0 (-1) dg dg (zeroW cs.length) [] ⟨0, rfl, by omega, rfl, rfl, rfl, rfl, rfl, rfl, rfl, rfl, rfl⟩
    obtain ⟨z, hz, rfl⟩ := key
    simp only [m1, hm, b1, b2, letZ, if_true, Bool.not_true, Bool.false_eq_true, if_false, Option.isNone_some, Option.getD_some]
    rw [hz]
  · have hm' : mayB n dg = false := by simpa using hm
    simp only [m1, hm', if_true, Bool.not_false, Bool.false_eq_true, if_false]
/-- May a search go on from these numbers? -/
theorem FromE.is {n : Nat} {cs : List Int} (hC : Cuts n cs) (hl : cs.length ≤ 65536) (hn : n ≤ 1048576) {dg : List Int} (hm : mayB n dg = true) {p : Int} (hp : 0 ≤ p) {es : List Int} (he : es.length = n) (hes : ∀ v, v < n → 0 ≤ es.getD v 0 ∧ es.getD v 0 ≤ dg.getD v 0) {fl : List Bool} (hfl : fl.length = cs.length) :
    FromE.pre (some cs) dg (p, es, fl) = true ∧ FromE.fn (some cs) dg (p, es, fl) = (some (some cs, dg, es, fromW cs.length fl, p, false, 0, -1, [], false), 0, ()) := by
  have hlen : dg.length = n := by
    unfold mayB at hm
    rw [Bool.and_eq_true, decide_eq_true_eq] at hm
    exact hm.2
  obtain ⟨m1, m2⟩ := may.is hC hl (dg := dg) (by omega)
  obtain ⟨b1, b2⟩ := begun.is hl (dg := dg) (bd := es) (by omega) (by omega)
  have hS : Shards.pre (some cs) = true ∧ Shards.fn (some cs) = ((cs.length : Int), ()) := Shards.is_fn _ rfl
  have key := FromE.F6_inv (l0 := some cs) (degrees1 := dg) (t37 := es) (t38 := (es.length : Int)) (c0x0 := p) (c0x1 := es) (c0x2 := fl)
    (fun i => ∃ j : Nat, i = (j : Int) ∧ j ≤ n) (fun i => n - i.toNat) (fun z => z = Sum.inr ((some cs, dg, ()), ((p, es, fl, ()), ()))) (fun i hI => by
      obtain ⟨j, rfl, hj⟩ := hI
      unfold FromE.R6
      refine led_dif (fun q1 => ?_) (fun q1 => led_x rfl)
      have hjl : j < n := by omega
      have hv := hes j hjl
      have hw : IntKind.wrap .i64 ((j : Int) + 1) = (j : Int) + 1 := wr (by omega) (by omega)
      refine led_need (by omega) (led_need q1 ?_)
      rw [Int.toNat_natCast, decide_eq_false (show ¬ es.getD j 0 < 0 by omega), decide_eq_false (show ¬ es.getD j 0 > dg.getD j 0 by omega), hw]
      refine led_yes rfl (led_need (by omega) (led_need (by omega) (led_no (by simp) ?_)))
      exact led_k ⟨_, rfl, ⟨j + 1, by omega, by omega⟩, by omega⟩) 0 ⟨0, rfl, by omega⟩
  obtain ⟨z, hz, rfl⟩ := key
  have key2 := FromE.F14_inv (t66 := fl) (t67 := (fl.length : Int))
    (fun i l p' u q c r1 r2 r3 r4 => ∃ j : Nat, i = (j : Int) ∧ j ≤ fl.length ∧ l = some cs ∧ p' = p ∧ u = false ∧ q = 0 ∧ c = -1 ∧ dg = r1 ∧ es = r2 ∧ r3 = marks (fun v => fl.getD v false) (fun v => v) j (zeroW cs.length) ∧ r4 = [])
    (fun i _ _ _ _ _ _ _ _ _ => fl.length - i.toNat)
    (fun z => z = ((), ((some cs, p, false, 0, -1, ()), dg, es, fromW cs.length fl, [], ())))
    (fun i l p' u q c r1 r2 r3 r4 hI => by
      obtain ⟨j, rfl, hj, rfl, rfl, rfl, rfl, rfl, rfl, rfl, rfl, rfl⟩ := hI
      unfold FromE.R14
      refine led_dif (fun q1 => ?_) (fun q1 => led_x ?_)
      · have hjl : j < fl.length := by omega
        have hw : IntKind.wrap .i64 ((j : Int) + 1) = (j : Int) + 1 := wr (by omega) (by omega)
        have hW := (marks_ok (f := fun v => fl.getD v false) (g := fun v => v) (zeroW_ok cs.length) j (fun v hv => by omega)).1
        obtain ⟨k1, k2⟩ := mark.is (hW.wds (by omega)) (some cs) dg es p' false 0 (-1) [] (s := j) (hW.lt (by omega))
        refine led_need (by omega) (led_need q1 ?_)
        rw [Int.toNat_natCast, hw]
        refine led_if (fun c => led_need k1 ?_) (fun c => ?_)
        · rw [k2]
          simp only [letZ]
          refine led_k ⟨_, _, _, _, _, _, _, _, _, _, rfl, ⟨j + 1, by omega, by omega, rfl, rfl, rfl, rfl, rfl, rfl, rfl, ?_, rfl⟩, by omega⟩
          rw [marks_succ, if_pos c]
        · refine led_k ⟨_, _, _, _, _, _, _, _, _, _, rfl, ⟨j + 1, by omega, by omega, rfl, rfl, rfl, rfl, rfl, rfl, rfl, ?_, rfl⟩, by omega⟩
          rw [marks_succ, if_neg c]
      · obtain rfl : j = fl.length := by omega
        rfl) 0 (some cs) p false 0 (-1) dg es (zeroW cs.length) [] ⟨0, rfl, by omega, rfl, rfl, rfl, rfl, rfl, rfl, rfl, rfl, rfl⟩
  obtain ⟨z2, hz2, rfl⟩ := key2
  refine FromE.is_fn _ _ _ ?_
  unfold FromE.run'
  have e1 : ¬ p < 0 := by omega
  have e2 : ((es.length : Int) != (dg.length : Int)) = false := by rw [he, hlen]; simp
  have e3 : ((fl.length : Int) != (cs.length : Int)) = false := by rw [hfl]; simp
  rw [m2, hS.2]
  simp only [m1, hm, hS.1, b1, b2, e1, e2, e3, letZ, if_true, Bool.not_true, Bool.false_eq_true, if_false, decide_false, hz, Option.isNone_some, Option.getD_some]
  rw [hz2]
theorem markW_take {cs ts : List Int} {v s : Nat} {bd : List Int} {h old : Int} {dr : List Int} {j : Nat} (hj : j < ts.length) : markW cs (ts.take (j + 1)) v s bd h old dr = if cross cs v s bd h old (ts.getD j 0) = true then setBit (markW cs (ts.take j) v s bd h old dr) (shN cs (ts.getD j 0)) else markW cs (ts.take j) v s bd h old dr := by
  unfold markW
  rw [take_snoc 0 ts j hj, List.foldl_append]
  rfl
theorem ReadE.F17_is {n : Nat} {cs : List Int} (hC : Cuts n cs) (hl : cs.length ≤ 65536) (hn : n ≤ 1048576) (f : Int) (v s : Nat) (hs : s < cs.length) (old h : Int) (ls : List (Int × List Int)) (L i : Int) {ts : List Int} (hts : ∀ u ∈ ts, 0 ≤ u ∧ u < (n : Int)) (htl : ts.length ≤ 1099511627776) (p : Int) (u : Bool) (q c : Int) (dg : List Int) {bd : List Int} (hb : bd.length = n) {dr : List Int} (hw : Wn cs.length dr) (k : List Int) :
    ReadE.F17 (s : Int) f (v : Int) old h ls L i ts (ts.length : Int) 0 (some cs) p u q c dg bd dr k = some (((s : Int), f, ls, L, i, ()), ((some cs, p, u, q, c, ()), dg, bd, markW cs ts v s bd h old dr, k, ())) := by
  have key := ReadE.F17_inv (shard1 := (s : Int)) (falls8 := f) (v11 := (v : Int)) (old12 := old) (h13 := h) (t53 := ls) (t54 := L) (t55 := i) (t86 := ts) (t87 := (ts.length : Int))
    (fun i' l' p' u' q' c' r1 r2 r3 r4 => ∃ j : Nat, i' = (j : Int) ∧ j ≤ ts.length ∧ l' = some cs ∧ p' = p ∧ u' = u ∧ q' = q ∧ c' = c ∧ r1 = dg ∧ r2 = bd ∧ r3 = markW cs (ts.take j) v s bd h old dr ∧ r4 = k)
    (fun i' _ _ _ _ _ _ _ _ _ => ts.length - i'.toNat)
    (fun z => z = (((s : Int), f, ls, L, i, ()), ((some cs, p, u, q, c, ()), dg, bd, markW cs ts v s bd h old dr, k, ())))
    (fun i' l' p' u' q' c' r1 r2 r3 r4 hI => by
      obtain ⟨j, rfl, hj, rfl, rfl, rfl, rfl, rfl, rfl, rfl, rfl, rfl⟩ := hI
      unfold ReadE.R17
      refine led_dif (fun q1 => ?_) (fun q1 => led_x ?_)
      · have hjl : j < ts.length := by omega
        have hw1 : IntKind.wrap .i64 ((j : Int) + 1) = (j : Int) + 1 := wr (by omega) (by omega)
        have hx := hts _ (mem_getD 0 ts j hjl)
        have tk := markW_take (cs := cs) (v := v) (s := s) (bd := r2) (h := h) (old := old) (dr := dr) hjl
        have hsh := (sh_at hC hx.1 hx.2).1
        obtain ⟨s1, s2⟩ := Shard.is hC hl hx.1 hx.2
        have hW := (markW_ok cs v s r2 h old (m := cs.length) (ts.take j) hw (fun x hx => Nat.le_of_lt (sh_at hC (hts x (List.mem_of_mem_take hx)).1 (hts x (List.mem_of_mem_take hx)).2).1)).1
        obtain ⟨k1, k2⟩ := mark.is (hW.wds (by omega)) (some cs) r1 r2 p' u' q' c' r4 (s := shN cs (ts.getD j 0)) (hW.lt (Nat.le_of_lt hsh))
        have ho : ∀ r3', r3' = markW cs (ts.take (j + 1)) v s r2 h old dr → Led (fun (R : Type) (k' : ReadE.V17 → Option R) (kx : ReadE.X17 → Option R) => k' (((s : Int), f, (v : Int), old, h, ls, L, i, ts, (ts.length : Int), (j : Int) + 1, ()), ((some cs, p', u', q', c', ()), r1, r2, r3', r4, ())))
            (fun v' => ∃ (t88' : Int) (c0x0' : Option (List Int)) (c0x4' : Int) (c0x5' : Bool) (c0x6' : Int) (c0x7' : Int) (r1' : List Int) (r2' : List Int) (r3' : List Int) (r4' : List Int), v' = (((s : Int), f, (v : Int), old, h, ls, L, i, ts, (ts.length : Int), t88', ()), ((c0x0', c0x4', c0x5', c0x6', c0x7', ()), r1', r2', r3', r4', ())) ∧ (∃ j : Nat, t88' = (j : Int) ∧ j ≤ ts.length ∧ c0x0' = some cs ∧ c0x4' = p' ∧ c0x5' = u' ∧ c0x6' = q' ∧ c0x7' = c' ∧ r1' = r1 ∧ r2' = r2 ∧ r3' = markW cs (ts.take j) v s r2 h old dr ∧ r4' = r4) ∧ ts.length - t88'.toNat < ts.length - ((j : Int)).toNat)
            (fun z => z = (((s : Int), f, ls, L, i, ()), ((some cs, p', u', q', c', ()), r1, r2, markW cs ts v s r2 h old dr, r4, ()))) := fun r3' e => led_k ⟨_, _, _, _, _, _, _, _, _, _, rfl, ⟨j + 1, by omega, by omega, rfl, rfl, rfl, rfl, rfl, rfl, rfl, e, rfl⟩, by omega⟩
        refine led_need (by omega) (led_need q1 ?_)
        rw [Int.toNat_natCast]
        refine led_need hx.1 (led_need (by omega) ?_)
        rw [hw1]
        unfold cross at tk
        refine led_dif (fun c1 => ?_) (fun c1 => ho _ (by rw [tk, decide_eq_false c1]; rfl))
        refine led_dif (fun c2 => ?_) (fun c2 => ho _ (by rw [tk, decide_eq_false c2, Bool.and_false]; rfl))
        rw [decide_eq_true c1, decide_eq_true c2] at tk
        by_cases c3 : ts.getD j 0 < (v : Int)
        · rw [decide_eq_true c3]
          refine led_no (by simp) (led_need s1 ?_)
          rw [s2]
          refine led_need k1 ?_
          rw [k2]
          simp only [letZ]
          refine ho _ ?_
          rw [tk, decide_eq_true c3]
          rfl
        · rw [decide_eq_false c3]
          refine led_yes rfl (led_need s1 ?_)
          rw [s2]
          by_cases c4 : shN cs (ts.getD j 0) = s
          · refine led_no (by rw [c4]; simp) (ho _ ?_)
            rw [tk, decide_eq_false c3, decide_eq_false (by omega)]
            rfl
          · refine led_yes (bne_iff_ne.2 (by omega)) (led_need s1 (led_need k1 ?_))
            rw [k2]
            simp only [letZ]
            refine ho _ ?_
            rw [tk, decide_eq_false c3, decide_eq_true c4]
            rfl
      · obtain rfl : j = ts.length := by omega
        rw [take_all (Nat.le_refl _)]) 0 (some cs) p u q c dg bd dr k ⟨0, rfl, by omega, rfl, rfl, rfl, rfl, rfl, rfl, rfl, rfl, rfl⟩
  obtain ⟨z, hz, rfl⟩ := key
  exact hz
/-- Lists that a read may be handed: of vertices, with neighbours that are vertices. -/
def Rows17 (n : Nat) (ls : List (Int × List Int)) : Prop := ∀ x ∈ ls, 0 ≤ x.1 ∧ x.1 < (n : Int) ∧ x.2.length ≤ 1048576 ∧ ∀ u ∈ x.2, 0 ≤ u ∧ u < (n : Int)
theorem ReadE.F9_is {n : Nat} {cs : List Int} (hC : Cuts n cs) (hl : cs.length ≤ 65536) (hn : n ≤ 1048576) (s : Nat) (hs : s < cs.length) {ls : List (Int × List Int)} (hls : Rows17 n ls) (hll : ls.length ≤ 1048576) (p : Int) (u : Bool) (q c : Int) (dg : List Int) {bd0 : List Int} (hb : bd0.length = n) (hb0 : ∀ j, 0 ≤ bd0.getD j 0) (hb1 : ∀ j, bd0.getD j 0 ≤ 1099511627776) {dr : List Int} (hw : Wn cs.length dr) (k : List Int) :
    ∃ k', ReadE.F9 (s : Int) 0 ls (ls.length : Int) 0 (some cs) p u q c dg bd0 dr k = some (((readW cs s ls (bd0, 0, dr)).2.1, ()), ((some cs, p, u, q, c, ()), dg, (readW cs s ls (bd0, 0, dr)).1, (readW cs s ls (bd0, 0, dr)).2.2, k', ())) := by
  have hB0 : Bds n bd0 bd0 := ⟨hb, hb0, fun _ => Int.le_refl _⟩
  have key := ReadE.F9_inv (shard1 := (s : Int)) (t53 := ls) (t54 := (ls.length : Int))
    (fun f i' l' p' u' q' c' r1 r2 r3 r4 => ∃ j : Nat, i' = (j : Int) ∧ j ≤ ls.length ∧ l' = some cs ∧ p' = p ∧ u' = u ∧ q' = q ∧ c' = c ∧ r1 = dg ∧ f = (readW cs s (ls.take j) (bd0, 0, dr)).2.1 ∧ r2 = (readW cs s (ls.take j) (bd0, 0, dr)).1 ∧ r3 = (readW cs s (ls.take j) (bd0, 0, dr)).2.2)
    (fun _ i' _ _ _ _ _ _ _ _ _ => ls.length - i'.toNat)
    (fun z => ∃ k', z = (((readW cs s ls (bd0, 0, dr)).2.1, ()), ((some cs, p, u, q, c, ()), dg, (readW cs s ls (bd0, 0, dr)).1, (readW cs s ls (bd0, 0, dr)).2.2, k', ())))
    (fun f i' l' p' u' q' c' r1 r2 r3 r4 hI => by
      obtain ⟨j, rfl, hj, rfl, rfl, rfl, rfl, rfl, rfl, ef, e2, e3⟩ := hI
      unfold ReadE.R9
      refine led_dif (fun q1 => ?_) (fun q1 => led_x ?_)
      · have hjl : j < ls.length := by omega
        have hw1 : IntKind.wrap .i64 ((j : Int) + 1) = (j : Int) + 1 := wr (by omega) (by omega)
        have tk := readW_take (cs := cs) (s := s) (st := (bd0, 0, dr)) hjl
        have hB := readW_bds (cs := cs) (s := s) (ls.take j) (st := (bd0, 0, dr)) hB0
        have hWn := (readW_ok (cs := cs) (s := s) (ls.take j) (bd := bd0) (f := 0) hw (fun x hx u hu => Nat.le_of_lt (sh_at hC ((hls x (List.mem_of_mem_take hx)).2.2.2 u hu).1 ((hls x (List.mem_of_mem_take hx)).2.2.2 u hu).2).1)).1
        have hfl := readW_falls cs s (ls.take j) (bd0, 0, dr)
        rw [List.length_take] at hfl
        rw [← e2] at hB
        rw [← e3] at hWn
        rw [← ef] at hfl
        have hfl0 : (0 : Int) ≤ f := hfl.1
        have hfl1 : f ≤ 1048576 := by
          have := hfl.2
          simp only at this
          omega
        have est : readW cs s (ls.take j) (bd0, 0, dr) = (r2, f, r3) := by rw [e2, e3, ef]
        rw [est] at tk
        obtain ⟨x, hx⟩ : ∃ x, ls.getD j (0, []) = x := ⟨_, rfl⟩
        rw [hx] at tk
        have hxm := hls x (by rw [← hx]; exact mem_getD (0, []) ls j hjl)
        obtain ⟨v, hv⟩ : ∃ v : Nat, x.1 = (v : Int) := ⟨x.1.toNat, by omega⟩
        have hvn : v < n := by omega
        have hbl := hB.len
        have a0 : (0 : Int) ≤ (v : Int) := by omega
        have a1 : (v : Int) < (r2.length : Int) := by omega
        have a2 : v < r2.length := by omega
        have hp : hE.pre (some cs) r1 r2 r3 p' u' q' c' r4 (v : Int) x.2 = true := by
          show hE.preB r2 (v : Int) x.2 = true
          unfold hE.preB
          refine and_need (and_need (and_need (and_need (decide_eq_true a0) (decide_eq_true a1)) ?_) ?_) (decide_eq_true (by have := hxm.2.2.1; omega))
          · rw [List.all_eq_true]
            intro y hy
            obtain ⟨m, hm, rfl⟩ := (mem_idx 0).1 hy
            have g1 := hB.lo m
            have g2 := hB.hi m
            have g3 := hb1 m
            simp only [Bool.and_eq_true, decide_eq_true_eq]
            omega
          · rw [List.all_eq_true]
            intro y hy
            have := hxm.2.2.2 y hy
            simp only [Bool.and_eq_true, decide_eq_true_eq]
            omega
        have hf : hE.fn (some cs) r1 r2 r3 p' u' q' c' r4 (v : Int) x.2 = ((some cs, r1, r2, r3, p', u', q', c', hE.cnt r2 (v : Int) x.2, false), Hx.hOf (Hx.vals x.2 r2) (r2.getD v 0), ()) := by
          show (_, hE.res r2 (v : Int) x.2, ()) = _
          unfold hE.res
          rw [Int.toNat_natCast]
        refine led_need (by omega) (led_need q1 ?_)
        have a3 : (0 : Int) ≤ (j : Int) := by omega
        have hs2 : (List.set r2 v (Hx.hOf (Hx.vals x.2 r2) (r2.getD v 0))).length = n := by rw [List.length_set]; exact hbl
        have hF := fun (kk : List Int) => ReadE.F17_is hC hl hn (f + 1) v s hs (r2.getD v 0) (Hx.hOf (Hx.vals x.2 r2) (r2.getD v 0)) ls (ls.length : Int) (j : Int) (ts := x.2) hxm.2.2.2 (by have := hxm.2.2.1; omega) p' u' q' c' r1 hs2 hWn kk
        have hwf : IntKind.wrap .i64 (f + 1) = f + 1 := wr (by omega) (by omega)
        simp only [Int.toNat_natCast, hx, hv, hp, hf, letZ, a0, a1, a2, if_true, bothK_same, hwf, hF, hw1]
        unfold rStepW at tk
        simp only [hv, Int.toNat_natCast] at tk
        refine led_dif (fun cc => ?_) (fun cc => ?_)
        · rw [if_pos cc] at tk
          exact led_k ⟨_, _, _, _, _, _, _, _, _, _, _, rfl, ⟨j + 1, by omega, by omega, rfl, rfl, rfl, rfl, rfl, rfl, by rw [tk], by rw [tk], by rw [tk]⟩, by omega⟩
        · rw [if_neg cc] at tk
          exact led_k ⟨_, _, _, _, _, _, _, _, _, _, _, rfl, ⟨j + 1, by omega, by omega, rfl, rfl, rfl, rfl, rfl, rfl, by rw [tk], by rw [tk], by rw [tk]⟩, by omega⟩
      · obtain rfl : j = ls.length := by omega
        rw [take_all (Nat.le_refl _)] at ef e2 e3
        exact ⟨r4, by rw [ef, e2, e3]⟩) 0 0 (some cs) p u q c dg bd0 dr k ⟨0, rfl, by omega, rfl, rfl, rfl, rfl, rfl, rfl, rfl, rfl, rfl⟩
  obtain ⟨z, hz, k', rfl⟩ := key
  exact ⟨k', hz⟩
theorem ReadE.turn (l : Option (List Int)) (dg bd dr : List Int) (p : Int) (u : Bool) (q c : Int) (k : List Int) {s : Int} (h : s < 0 ∨ s ≠ c) (ls : List (Int × List Int)) :
    ReadE.pre l dg bd dr p u q c k s ls = true ∧ ReadE.fn l dg bd dr p u q c k s ls = ((l, dg, bd, dr, p, u, q, c, k, false), 0, 170, ()) := by
  refine ReadE.is_fn _ _ _ _ _ _ _ _ _ _ _ ?_
  unfold ReadE.run'
  by_cases h0 : s < 0
  · rw [decide_eq_true h0]
    rfl
  · rw [decide_eq_false h0, if_pos rfl, if_pos (bne_iff_ne.2 (h.resolve_left h0))]
/-- A read of the shard that is called, of lists that fit. -/
theorem ReadE.ok17 {n : Nat} {cs : List Int} (hC : Cuts n cs) (hl : cs.length ≤ 65536) (hn : n ≤ 1048576) {dg : List Int} (hdg : dg.length = n) (hdl : ∀ v, dg.getD v 0 ≤ 1048576) {bd : List Int} (hb : bd.length = n) (hb0 : ∀ j, 0 ≤ bd.getD j 0) (hb1 : ∀ j, bd.getD j 0 ≤ 1099511627776) {dr : List Int} (hw : Wn cs.length dr) (p : Int) (u : Bool) (q : Int) (k : List Int) {s : Nat} (hs : s < cs.length)
    {ls : List (Int × List Int)} (hll : ls.length ≤ 1048576) (hlt : ∀ i, ((ls.getD i (0, [])).2).length < 4294967296) (hf : fitsB dg n (List.range' (lowC cs s).toNat ((lowC cs (s + 1)).toNat - (lowC cs s).toNat)) ls = true) :
    ReadE.pre (some cs) dg bd dr p u q (s : Int) k (s : Int) ls = true ∧ ∃ k', ReadE.fn (some cs) dg bd dr p u q (s : Int) k (s : Int) ls = ((some cs, dg, (readW cs s ls (bd, 0, clrBit dr s)).1, (readW cs s ls (bd, 0, clrBit dr s)).2.2, p, u, (s : Int) + 1, -1, k', false), (readW cs s ls (bd, 0, clrBit dr s)).2.1, 0, ()) := by
  obtain ⟨f1, f2⟩ := fits.is hC hl (dg := dg) (by omega) (by omega) bd dr p u q (s : Int) k hs ls (by omega) hlt
  rw [hf] at f2
  have hlo := hC.lown (s := s + 1) (by omega)
  have hrows : Rows17 n ls := fun x hx => by
    obtain ⟨⟨v, hv, e, el⟩, g⟩ := (fitsB_mem _ _ hf).2 x hx
    have := List.mem_range'.1 hv
    obtain ⟨i, hi, ev⟩ := this
    have h0 := hC.low0 (s := s) (by omega)
    have := hdl v
    exact ⟨by omega, by omega, by omega, g⟩
  obtain ⟨x, hx, hx2⟩ := hw.w.nat (s / 64)
  have hlt' := hw.lt (s := s) (by omega)
  have a0 : (0 : Int) ≤ ((s / 64 : Nat) : Int) := by omega
  have a1 : ((s / 64 : Nat) : Int) < (dr.length : Int) := by omega
  have a2 : (0 : Int) ≤ ((s % 64 : Nat) : Int) := by omega
  have a3 : s / 64 < dr.length := by omega
  have hk : s % 64 < 64 := Nat.mod_lt _ (by decide)
  have e0 : ¬ ((s : Int) < 0) := by omega
  have e1 : ((s : Int) != (s : Int)) = false := by simp
  have ew : IntKind.wrap .i64 ((s : Int) + 1) = (s : Int) + 1 := wr (by omega) (by omega)
  have ec : List.set dr (s / 64) (bitsZ Go.BinOp.andNot Go.IntKind.u64 (dr.getD (s / 64) 0) (Go.IntKind.wrap Go.IntKind.u64 ((1 : Int) * (2 : Int) ^ Min.min (s % 64) (64 : Nat)))) = clrBit dr s := by
    rw [hx, one_shl hk, bz_andNot hx2 (pow_lt hk)]
    unfold clrBit
    rw [hx, Int.toNat_natCast]
  obtain ⟨k', hF⟩ := ReadE.F9_is hC hl hn s hs hrows hll p u ((s : Int) + 1) (-1) dg hb hb0 hb1 (hw.clrBit s) k
  have run : ReadE.run' (some cs) dg bd dr p u q (s : Int) k (s : Int) ls = some ((some cs, dg, (readW cs s ls (bd, 0, clrBit dr s)).1, (readW cs s ls (bd, 0, clrBit dr s)).2.2, p, u, (s : Int) + 1, -1, k', false), (readW cs s ls (bd, 0, clrBit dr s)).2.1, 0, ()) := by
    unfold ReadE.run'
    simp only [f1, f2, letZ, e0, e1, decide_false, if_true, Bool.not_true, Bool.false_eq_true, if_false, tdiv64 s (by omega), tmod64, Int.toNat_natCast, a0, a1, a2, a3, ew]
    rw [ec, hF]
  obtain ⟨g1, g2⟩ := ReadE.is_fn _ _ _ _ _ _ _ _ _ _ _ run
  exact ⟨g1, k', g2⟩
end Go.Proofs.YthbojpaghbbnnaaDoor.Z
namespace Go.Proofs.YthbojpaghbbnnaaDoor.Z
open Go Go.RowKit Esx
set_option linter.unusedVariables false
set_option linter.unusedSimpArgs false
theorem list17.is (v : Int) (ts : List Int) : list17.pre v ts = true ∧ list17.fn v ts = ((v, ts), ()) := list17.is_fn _ _ rfl
theorem Check.is {dr : List Int} (hW : Wds dr) {cs : List Int} (hc : cs.length < 64 * dr.length) (dg : List Int) {bd : List Int} (hb : bd.length ≤ 1048576) (p : Int) (q c : Int) (k : List Int) :
    Check.pre (some cs) dg bd dr p false q c k = true ∧ Check.fn (some cs) dg bd dr p false q c k = ((some cs, dg, bd, dr, p, false, q, c, k, false), (p, bd, flagsOf cs.length dr), 0, ()) := by
  obtain ⟨b1, b2⟩ := BoundsE.is (some cs) dg bd dr hb p false q c k
  obtain ⟨d1, d2⟩ := DirtyE.is hW hc dg bd p false q c k
  refine Check.is_fn _ _ _ _ _ _ _ _ _ ?_
  unfold Check.run'
  simp only [b1, b2, d1, d2, letZ, if_true, Bool.false_eq_true, if_false, bothK_same]
abbrev low17 : List (Int × List Int) := [(0, [1, 2]), (1, [0, 2]), (2, [0, 1, 3])]
abbrev high17 : List (Int × List Int) := [(3, [2, 4]), (4, [3, 5]), (5, [4])]
abbrev dg17 : List Int := [2, 2, 3, 2, 2, 1]
theorem cuts36 : Cuts 6 [3, 6] := by
  refine ⟨fun i j h1 h2 => ?_, fun i h => ?_, rfl⟩
  · have h2 : j < 2 := h2
    obtain rfl : i = 0 := by omega
    obtain rfl : j = 1 := by omega
    decide
  · have h : i < 2 := h
    rcases i with _ | _ | i
    · decide
    · decide
    · omega
theorem wn36 {x : Nat} (hx : x < 18446744073709551616) : Wn 2 [(x : Int)] := ⟨fun i => by
  rcases i with _ | i
  · exact ⟨Int.natCast_nonneg _, by show (x : Int) < _; omega⟩
  · show 0 ≤ (0 : Int) ∧ (0 : Int) < _
    decide, rfl⟩
theorem small_of {l : List Int} {B : Int} (h0 : 0 ≤ B) (h : ∀ x ∈ l, 0 ≤ x ∧ x ≤ B) (j : Nat) : 0 ≤ l.getD j 0 ∧ l.getD j 0 ≤ B := by
  by_cases hj : j < l.length
  · exact h _ (mem_getD 0 l j hj)
  · rw [getD_out (by omega)]; exact ⟨Int.le_refl _, h0⟩
/-- A read of the example: what it leaves. -/
theorem read36 {bd : List Int} {x : Nat} (hx : x < 18446744073709551616) (hb : bd.length = 6) (hbb : ∀ y ∈ bd, 0 ≤ y ∧ y ≤ 3) (p : Int) (u : Bool) (q : Int) (k : List Int) {s : Nat} (hs : s < 2) {ls : List (Int × List Int)} (hll : ls.length ≤ 10) (hlt : ls.all (fun y => decide (y.2.length ≤ 10)) = true) {bd' : List Int} {f : Int} {dr' : List Int} (hf : fitsB dg17 6 (List.range' (lowC [3, 6] s).toNat ((lowC [3, 6] (s + 1)).toNat - (lowC [3, 6] s).toNat)) ls = true) (hr : readW [3, 6] s ls (bd, 0, clrBit [(x : Int)] s) = (bd', f, dr')) :
    ReadE.pre (some [3, 6]) dg17 bd [(x : Int)] p u q (s : Int) k (s : Int) ls = true ∧ ∃ k', ReadE.fn (some [3, 6]) dg17 bd [(x : Int)] p u q (s : Int) k (s : Int) ls = ((some [3, 6], dg17, bd', dr', p, u, (s : Int) + 1, -1, k', false), f, 0, ()) := by
  have h := ReadE.ok17 (n := 6) cuts36 (by decide) (by decide) (dg := dg17) rfl (fun v => Int.le_trans (small_of (B := 3) (by decide) (by decide) v).2 (by decide)) hb (fun j => (small_of (by decide) hbb j).1) (fun j => Int.le_trans (small_of (by decide) hbb j).2 (by decide)) (wn36 hx) p u q k hs (ls := ls) (by omega) (fun i => by
    by_cases hi : i < ls.length
    · have := List.all_eq_true.1 hlt _ (mem_getD (0, []) ls i hi)
      rw [decide_eq_true_eq] at this
      omega
    · rw [getD_out (by omega)]; decide) hf
  rw [hr] at h
  exact h
theorem first17.is : first17.pre = true ∧ first17.fn = (true, ()) := by
  have l1 : layNew.pre (6 : Int) [3, 6] = true := (layNew.is cuts36 (by decide) (by decide)).1
  have l2 : layNew.fn (6 : Int) [3, 6] = (some [3, 6], 0, ()) := (layNew.is cuts36 (by decide) (by decide)).2
  obtain ⟨n1, n2⟩ := NewE.is cuts36 (by decide) (dg := dg17) (by decide)
  rw [if_pos (by decide), show newW [3, 6] dg17 = [3] from by decide] at n2
  obtain ⟨m1, m2⟩ := NewE.is cuts36 (by decide) (dg := [2, 2, 3, 2, 2]) (by decide)
  rw [if_neg (by decide)] at m2
  have W : ∀ x : Nat, x < 18446744073709551616 → Wds [(x : Int)] := fun x hx => (wn36 hx).wds (by decide)
  have N := fun (x : Nat) (hx : x < 18446744073709551616) (bd : List Int) (p : Nat) (hp : p < 10) (u : Bool) (q : Nat) (hq : q < 10) (c : Int) (k : List Int) => NextE.is (W x hx) (some [3, 6]) dg17 bd (p := (p : Int)) ⟨by omega, by omega⟩ u q (by omega) c k
  have D2 := DirtyE.is (W 2 (by decide)) (cs := [3, 6]) (by decide) dg17 [2, 2, 2, 2, 1, 1]
  have B := fun dr p u q c k => BoundsE.is (some [3, 6]) dg17 [2, 2, 2, 1, 1, 1] dr (by decide) p u q c k
  have e1 := fun k => (N 3 (by decide) dg17 0 (by decide) false 0 (by decide) (-1) k)
  have r1 := fun k => ReadE.turn (some [3, 6]) dg17 dg17 [3] 0 true 0 0 k (s := 1) (.inr (by decide)) []
  have r2 := fun k => read36 (bd := dg17) (x := 3) (by decide) rfl (by decide) 0 true 0 k (s := 0) (by decide) (ls := low17) (by decide) (by decide) (bd' := [2, 2, 2, 2, 2, 1]) (f := 1) (dr' := [2]) (by decide) (by decide)
  have e2 := fun k => (N 2 (by decide) [2, 2, 2, 2, 2, 1] 0 (by decide) true 1 (by decide) (-1) k)
  have r3 := fun k => read36 (bd := [2, 2, 2, 2, 2, 1]) (x := 2) (by decide) rfl (by decide) 0 true 1 k (s := 1) (by decide) (ls := high17) (by decide) (by decide) (bd' := [2, 2, 2, 2, 1, 1]) (f := 1) (dr' := [2]) (by decide) (by decide)
  have e3 := fun k => (N 2 (by decide) [2, 2, 2, 2, 1, 1] 0 (by decide) true 2 (by decide) (-1) k)
  have e4 := fun k => (N 2 (by decide) [2, 2, 2, 2, 1, 1] 1 (by decide) false 2 (by decide) (-1) k)
  have r4 := fun k => read36 (bd := [2, 2, 2, 2, 1, 1]) (x := 2) (by decide) rfl (by decide) 1 true 0 k (s := 1) (by decide) (ls := high17) (by decide) (by decide) (bd' := [2, 2, 2, 1, 1, 1]) (f := 1) (dr' := [1]) (by decide) (by decide)
  have e5 := fun k => (N 1 (by decide) [2, 2, 2, 1, 1, 1] 1 (by decide) true 2 (by decide) (-1) k)
  have e6 := fun k => (N 1 (by decide) [2, 2, 2, 1, 1, 1] 2 (by decide) false 2 (by decide) (-1) k)
  have r5 := fun k => read36 (bd := [2, 2, 2, 1, 1, 1]) (x := 1) (by decide) rfl (by decide) 2 true 0 k (s := 0) (by decide) (ls := low17) (by decide) (by decide) (bd' := [2, 2, 2, 1, 1, 1]) (f := 0) (dr' := [0]) (by decide) (by decide)
  have e7 := fun k => (N 0 (by decide) [2, 2, 2, 1, 1, 1] 2 (by decide) true 1 (by decide) (-1) k)
  have e8 := fun k => (N 0 (by decide) [2, 2, 2, 1, 1, 1] 3 (by decide) false 1 (by decide) (-1) k)
  have L : leastN [3] 0 = 0 ∧ leastN [2] 1 = 1 ∧ leastN [2] 2 = -1 ∧ leastN [2] 0 = 1 ∧ leastN [1] 2 = -1 ∧ leastN [1] 0 = 0 ∧ leastN [0] 1 = -1 ∧ leastN [0] 0 = -1 := by decide
  obtain ⟨L1, L2, L3, L4, L5, L6, L7, L8⟩ := L
  -- one after another
  have E1 : NextE.pre (some [3, 6]) dg17 dg17 [3] 0 false 0 (-1) [] = true ∧ NextE.fn (some [3, 6]) dg17 dg17 [3] 0 false 0 (-1) [] = ((some [3, 6], dg17, dg17, [3], 0, true, 0, 0, [], false), 0, ()) := ⟨(e1 []).1, (e1 []).2.trans (by simp [L1])⟩
  obtain ⟨R2p, k2, R2⟩ := r2 []
  have E2 : NextE.pre (some [3, 6]) dg17 [2, 2, 2, 2, 2, 1] [2] 0 true 1 (-1) k2 = true ∧ NextE.fn (some [3, 6]) dg17 [2, 2, 2, 2, 2, 1] [2] 0 true 1 (-1) k2 = ((some [3, 6], dg17, [2, 2, 2, 2, 2, 1], [2], 0, true, 1, 1, k2, false), 1, ()) := ⟨(e2 k2).1, (e2 k2).2.trans (by simp [L2])⟩
  obtain ⟨R3p, k3, R3⟩ := r3 k2
  have E3 : NextE.pre (some [3, 6]) dg17 [2, 2, 2, 2, 1, 1] [2] 0 true 2 (-1) k3 = true ∧ NextE.fn (some [3, 6]) dg17 [2, 2, 2, 2, 1, 1] [2] 0 true 2 (-1) k3 = ((some [3, 6], dg17, [2, 2, 2, 2, 1, 1], [2], 1, false, 2, -1, k3, false), -1, ()) := ⟨(e3 k3).1, (e3 k3).2.trans (by simp [L3])⟩
  have DD := D2 1 false 2 (-1) k3
  have E4 : NextE.pre (some [3, 6]) dg17 [2, 2, 2, 2, 1, 1] [2] 1 false 2 (-1) k3 = true ∧ NextE.fn (some [3, 6]) dg17 [2, 2, 2, 2, 1, 1] [2] 1 false 2 (-1) k3 = ((some [3, 6], dg17, [2, 2, 2, 2, 1, 1], [2], 1, true, 0, 1, k3, false), 1, ()) := ⟨(e4 k3).1, (e4 k3).2.trans (by simp [L4])⟩
  obtain ⟨R4p, k4, R4⟩ := r4 k3
  have E5 : NextE.pre (some [3, 6]) dg17 [2, 2, 2, 1, 1, 1] [1] 1 true 2 (-1) k4 = true ∧ NextE.fn (some [3, 6]) dg17 [2, 2, 2, 1, 1, 1] [1] 1 true 2 (-1) k4 = ((some [3, 6], dg17, [2, 2, 2, 1, 1, 1], [1], 2, false, 2, -1, k4, false), -1, ()) := ⟨(e5 k4).1, (e5 k4).2.trans (by simp [L5])⟩
  have E6 : NextE.pre (some [3, 6]) dg17 [2, 2, 2, 1, 1, 1] [1] 2 false 2 (-1) k4 = true ∧ NextE.fn (some [3, 6]) dg17 [2, 2, 2, 1, 1, 1] [1] 2 false 2 (-1) k4 = ((some [3, 6], dg17, [2, 2, 2, 1, 1, 1], [1], 2, true, 0, 0, k4, false), 0, ()) := ⟨(e6 k4).1, (e6 k4).2.trans (by simp [L6])⟩
  obtain ⟨R5p, k5, R5⟩ := r5 k4
  have E7 : NextE.pre (some [3, 6]) dg17 [2, 2, 2, 1, 1, 1] [0] 2 true 1 (-1) k5 = true ∧ NextE.fn (some [3, 6]) dg17 [2, 2, 2, 1, 1, 1] [0] 2 true 1 (-1) k5 = ((some [3, 6], dg17, [2, 2, 2, 1, 1, 1], [0], 3, false, 1, -1, k5, false), -1, ()) := ⟨(e7 k5).1, (e7 k5).2.trans (by simp [show leastN [0] 1 = -1 from L7])⟩
  have E8 : NextE.pre (some [3, 6]) dg17 [2, 2, 2, 1, 1, 1] [0] 3 false 1 (-1) k5 = true ∧ NextE.fn (some [3, 6]) dg17 [2, 2, 2, 1, 1, 1] [0] 3 false 1 (-1) k5 = ((some [3, 6], dg17, [2, 2, 2, 1, 1, 1], [0], 3, false, 1, -1, k5, false), -1, ()) := ⟨(e8 k5).1, (e8 k5).2.trans (by simp [show leastN [0] 0 = -1 from L8])⟩
  have BB := B [0] 3 false 1 (-1) k5
  have DN := DoneE.is (W 0 (by decide)) (some [3, 6]) dg17 [2, 2, 2, 1, 1, 1] 3 false 1 (-1) k5
  have PS := PassesE.is (some [3, 6]) dg17 [2, 2, 2, 1, 1, 1] [0] 3 false 1 (-1) k5
  have R1 := r1 []
  have DN1 : DoneE.pre (some [3, 6]) dg17 [2, 2, 2, 1, 1, 1] [0] 3 false 1 (-1) k5 = true := DN.1
  have DN2 : DoneE.fn (some [3, 6]) dg17 [2, 2, 2, 1, 1, 1] [0] 3 false 1 (-1) k5 = ((some [3, 6], dg17, [2, 2, 2, 1, 1, 1], [0], 3, false, 1, -1, k5, false), true, ()) := DN.2.trans (by simp [show leastN [0] 0 = -1 from L8])
  have DD1 : DirtyE.pre (some [3, 6]) dg17 [2, 2, 2, 2, 1, 1] [2] 1 false 2 (-1) k3 = true := DD.1
  have DD2 : DirtyE.fn (some [3, 6]) dg17 [2, 2, 2, 2, 1, 1] [2] 1 false 2 (-1) k3 = ((some [3, 6], dg17, [2, 2, 2, 2, 1, 1], [2], 1, false, 2, -1, k3, false), [false, true], ()) := DD.2.trans (by rw [show flagsOf [(3 : Int), 6].length [((2 : Nat) : Int)] = [false, true] from by decide]; rfl)
  have R2p' : ReadE.pre (some [3, 6]) dg17 dg17 [3] 0 true 0 0 [] 0 low17 = true := R2p
  have R2' : ReadE.fn (some [3, 6]) dg17 dg17 [3] 0 true 0 0 [] 0 low17 = ((some [3, 6], dg17, [2, 2, 2, 2, 2, 1], [2], 0, true, 1, -1, k2, false), 1, 0, ()) := R2
  have R3p' : ReadE.pre (some [3, 6]) dg17 [2, 2, 2, 2, 2, 1] [2] 0 true 1 1 k2 1 high17 = true := R3p
  have R3' : ReadE.fn (some [3, 6]) dg17 [2, 2, 2, 2, 2, 1] [2] 0 true 1 1 k2 1 high17 = ((some [3, 6], dg17, [2, 2, 2, 2, 1, 1], [2], 0, true, 2, -1, k3, false), 1, 0, ()) := R3
  have R4p' : ReadE.pre (some [3, 6]) dg17 [2, 2, 2, 2, 1, 1] [2] 1 true 0 1 k3 1 high17 = true := R4p
  have R4' : ReadE.fn (some [3, 6]) dg17 [2, 2, 2, 2, 1, 1] [2] 1 true 0 1 k3 1 high17 = ((some [3, 6], dg17, [2, 2, 2, 1, 1, 1], [1], 1, true, 2, -1, k4, false), 1, 0, ()) := R4
  have R5p' : ReadE.pre (some [3, 6]) dg17 [2, 2, 2, 1, 1, 1] [1] 2 true 0 0 k4 0 low17 = true := R5p
  have R5' : ReadE.fn (some [3, 6]) dg17 [2, 2, 2, 1, 1, 1] [1] 2 true 0 0 k4 0 low17 = ((some [3, 6], dg17, [2, 2, 2, 1, 1, 1], [0], 2, true, 1, -1, k5, false), 0, 0, ()) := R5
  have q1 := list17.is 0 [1, 2]
  have q2 := list17.is 1 [0, 2]
  have q3 := list17.is 2 [0, 1, 3]
  have q4 := list17.is 3 [2, 4]
  have q5 := list17.is 4 [3, 5]
  have q6 := list17.is 5 [4]
  have sb : ∀ a b, SameBools.pre a b = true := fun _ _ => rfl
  have si : ∀ a b, SameIntsH.pre a b = true := fun _ _ => rfl
  have nm : ∀ e, num17.pre e = true := fun e => (num17.is e).1
  have nf : ∀ e, num17.fn e = (e, ()) := fun e => (num17.is e).2
  refine first17.is_fn ?_
  unfold first17.run'
  simp only [l1, l2, n1, n2, m1, m2, nm, nf, letZ, if_true, Option.isNone_some, Option.isNone_none, Option.getD_some, q1, q2, q3, q4, q5, q6, E1.1, E1.2, R1.1, R1.2, R2p', R2', E2.1, E2.2, R3p', R3', E3.1, E3.2, DD1, DD2, E4.1, E4.2, R4p', R4', E5.1, E5.2, E6.1, E6.2, R5p', R5', E7.1, E7.2, E8.1, E8.2, BB.1, BB.2, DN1, DN2, PS.1, PS.2, sb, si, SameBools.fn, SameIntsH.fn, show ((0 : Int) != 0) = false from rfl, Bool.false_eq_true, if_false]
  decide
end Go.Proofs.YthbojpaghbbnnaaDoor.Z
namespace Go.Proofs.YthbojpaghbbnnaaDoor.Z
open Go Go.RowKit
open Go.Proofs.YthbojpaghbbnnaaDoor.Esx
set_option linter.unusedVariables false
set_option linter.unusedSimpArgs false
theorem last_is {cs : List Int} (hl : cs.length ≤ 65536) {R : Type} {f : Int → Option R} : (if ((cs.length : Int) == (0 : Int)) = true then f 0 else if (0 : Int) ≤ IntKind.wrap .i64 ((cs.length : Int) - 1) then if IntKind.wrap .i64 ((cs.length : Int) - 1) < (cs.length : Int) then f (cs.getD (IntKind.wrap .i64 ((cs.length : Int) - 1)).toNat 0) else none else none) = f (lowC cs cs.length) := by
  cases h : cs.length with
  | zero => rfl
  | succ m =>
    rw [if_neg (by simp; omega), wr (by omega) (by omega), if_pos (by omega), if_pos (by omega)]
    rw [show (((m + 1 : Nat) : Int) - 1).toNat = m by omega]
    rfl
theorem n17.is {cs : List Int} (hl : cs.length ≤ 65536) : n17.pre cs = true ∧ n17.fn cs = (lowC cs cs.length, ()) := n17.is_fn _ (last_is hl (f := fun x => some (x, ())))
theorem end17.is {cs : List Int} (hl : cs.length ≤ 65536) : end17.pre cs = true ∧ end17.fn cs = (lowC cs cs.length, ()) := end17.is_fn _ (last_is hl (f := fun x => some (x, ())))
theorem mayR.is {n : Nat} {cs : List Int} (hC : Cuts n cs) (hl : cs.length ≤ 65536) {dg : List Int} (hd : dg.length ≤ 1099511627776) : mayR.pre cs dg = true ∧ mayR.fn cs dg = (mayB n dg, ()) := by
  obtain ⟨N1, N2⟩ := n17.is hl
  rw [hC.last] at N2
  refine mayR.is_fn _ _ ?_
  unfold mayR.run'
  rw [if_pos N1, N2]
  by_cases hL : dg.length = n
  · rw [if_neg (by simp [hL])]
    have key := mayR.F4_inv (degrees1 := dg) (fun i => ∃ j : Nat, i = (j : Int) ∧ j ≤ dg.length ∧ ∀ k, k < j → 0 ≤ dg.getD k 0 ∧ dg.getD k 0 < (n : Int)) (fun i => dg.length - i.toNat)
      (fun z => (z = Sum.inl ((false, ()), ()) ∧ ∃ k, k < dg.length ∧ ¬ (0 ≤ dg.getD k 0 ∧ dg.getD k 0 < (n : Int))) ∨ (z = Sum.inr ((), ()) ∧ ∀ k, k < dg.length → 0 ≤ dg.getD k 0 ∧ dg.getD k 0 < (n : Int))) (fun i hI => by
        obtain ⟨j, rfl, hj, hv⟩ := hI
        unfold mayR.R4
        refine led_dif (fun q1 => ?_) (fun q1 => led_x (.inr ⟨rfl, ?_⟩))
        · have hjl : j < dg.length := by omega
          have hw : IntKind.wrap .i64 ((j : Int) + 1) = (j : Int) + 1 := wr (by omega) (by omega)
          refine led_need (by omega) (led_need q1 ?_)
          rw [Int.toNat_natCast]
          by_cases h1 : dg.getD j 0 < 0
          · rw [decide_eq_true h1]
            exact led_no (by simp) (led_x (.inl ⟨rfl, j, hjl, by omega⟩))
          · rw [decide_eq_false h1]
            refine led_yes rfl (led_need (by omega) (led_need q1 ?_))
            by_cases h2 : dg.getD j 0 ≥ (dg.length : Int)
            · rw [decide_eq_true h2]
              exact led_yes rfl (led_x (.inl ⟨rfl, j, hjl, by omega⟩))
            · rw [decide_eq_false h2, hw]
              refine led_no (by simp) (led_k ⟨_, rfl, ⟨j + 1, by omega, by omega, fun k hk => ?_⟩, by omega⟩)
              by_cases e : k = j
              · subst e; omega
              · exact hv k (by omega)
        · intro k hk
          exact hv k (by omega)) 0 ⟨0, rfl, by omega, fun k hk => absurd hk (Nat.not_lt_zero _)⟩
    obtain ⟨z, hz, hq⟩ := key
    rw [hz]
    rcases hq with ⟨rfl, k, hk, hb⟩ | ⟨rfl, hb⟩
    · have : mayB n dg = false := by
        unfold mayB
        rw [Bool.and_eq_false_iff]
        left
        rw [List.all_eq_false]
        refine ⟨dg[k], List.getElem_mem hk, ?_⟩
        rw [List.getD_eq_getElem?_getD, List.getElem?_eq_getElem hk] at hb
        simp only [Option.getD_some] at hb
        simp only [Bool.and_eq_true, decide_eq_true_eq]
        exact hb
      rw [this]
    · have : mayB n dg = true := by
        unfold mayB
        rw [Bool.and_eq_true, List.all_eq_true, decide_eq_true_eq]
        refine ⟨fun x hx => ?_, hL⟩
        obtain ⟨k, hk, rfl⟩ := List.getElem_of_mem hx
        have := hb k hk
        rw [List.getD_eq_getElem?_getD, List.getElem?_eq_getElem hk] at this
        simp only [Option.getD_some] at this
        simp only [Bool.and_eq_true, decide_eq_true_eq]
        exact this
      rw [this]
  · rw [if_pos (by simp; omega)]
    have : mayB n dg = false := by
      unfold mayB
      rw [Bool.and_eq_false_iff]
      right
      exact decide_eq_false hL
    rw [this]
theorem RangeR.is {cs : List Int} {j : Nat} (hj : j < cs.length) (hl : cs.length ≤ 65536) : RangeR.pre cs (j : Int) = true ∧ RangeR.fn cs (j : Int) = (lowC cs j, lowC cs (j + 1), ()) := by
  refine RangeR.is_fn _ _ ?_
  unfold RangeR.run'
  rw [if_pos (decide_eq_false (by omega)), if_neg (by simp; omega)]
  cases j with
  | zero => rw [if_pos (by simp), if_pos (by omega)]; rfl
  | succ m =>
    rw [if_neg (by simp; omega), wr (by omega) (by omega), if_pos (by omega), if_pos (by omega), if_pos (by omega), if_pos (by omega)]
    rw [show (((m + 1 : Nat) : Int) - 1).toNat = m by omega, Int.toNat_natCast]
    rfl
theorem ShardR.is {n : Nat} {cs : List Int} (hC : Cuts n cs) (hl : cs.length ≤ 65536) {v : Int} (h0 : 0 ≤ v) (hn : v < n) : ShardR.pre cs v = true ∧ ShardR.fn cs v = ((shN cs v : Int), ()) := by
  obtain ⟨s1, s2, s3⟩ := sh_at hC h0 hn
  have key := ShardR.F2_inv (cuts0 := cs) (v1 := v) (fun i => ∃ j : Nat, i = (j : Int) ∧ j ≤ shN cs v) (fun i => cs.length - i.toNat) (fun z => z = Sum.inl (((shN cs v : Int), ()), ())) (fun i hI => by
    obtain ⟨j, rfl, hj⟩ := hI
    have hjl : j < cs.length := by omega
    obtain ⟨r1, r2⟩ := RangeR.is hjl hl
    have hw : IntKind.wrap .i64 ((j : Int) + 1) = (j : Int) + 1 := wr (by omega) (by omega)
    unfold ShardR.R2
    refine led_yes (decide_eq_true (by omega)) (led_need r1 ?_)
    rw [r2]
    have hm := hC.mono (i := j) (j := shN cs v) hj (by omega)
    refine led_yes (decide_eq_true (show v ≥ lowC cs j by omega)) ?_
    refine led_dif (fun q => led_x ?_) (fun q => ?_)
    · rw [← shN_eq hC hjl (by omega) q]
    · rw [hw]
      refine led_k ⟨_, rfl, ⟨j + 1, by omega, ?_⟩, by omega⟩
      rcases Nat.lt_or_ge j (shN cs v) with h | h
      · exact h
      · exfalso
        have : j = shN cs v := by omega
        subst this
        exact q s3) 0 ⟨0, rfl, by omega⟩
  obtain ⟨z, hz, rfl⟩ := key
  refine ShardR.is_fn _ _ ?_
  unfold ShardR.run'
  rw [hz]
theorem flags_set {m : Nat} {dr : List Int} (h : Wn m dr) {s : Nat} (hs : s < m) : flagsOf m (setBit dr s) = (flagsOf m dr).set s true := by
  apply List.ext_getElem
  · simp [flagsOf_len]
  · intro i h1 h2
    rw [flagsOf_len] at h1
    simp only [flagsOf, List.getElem_map, List.getElem_range, List.getElem_set]
    rw [bit_set (h.lt (by omega))]
    by_cases e : s = i
    · subst e; simp
    · rw [if_neg e, decide_eq_false (fun q => e q.symm), Bool.or_false]
theorem flags_zero (m : Nat) : flagsOf m (zeroW m) = List.replicate m false := by
  apply List.ext_getElem
  · simp [flagsOf_len]
  · intro i h1 h2
    simp only [flagsOf, List.getElem_map, List.getElem_range, List.getElem_replicate, zeroW_bit]
theorem flags_from {m : Nat} {fl : List Bool} (hl : fl.length = m) : flagsOf m (fromW m fl) = fl := by
  apply List.ext_getElem
  · rw [flagsOf_len, hl]
  · intro i h1 h2
    simp only [flagsOf, List.getElem_map, List.getElem_range, (fromW_ok hl).2 i]
    rw [List.getD_eq_getElem?_getD, List.getElem?_eq_getElem h2]
    rfl
theorem IntsO.ok {a : List Int} (h : a.length ≤ 1048576) : IntsO.pre a = true ∧ IntsO.fn a = (a, ()) := ⟨decide_eq_true (by omega), rfl⟩
theorem BoolsO.ok {a : List Bool} (h : a.length ≤ 1048576) : BoolsO.pre a = true ∧ BoolsO.fn a = (a, ()) := ⟨decide_eq_true (by omega), rfl⟩
theorem NewR.is {n : Nat} {cs : List Int} (hC : Cuts n cs) (hl : cs.length ≤ 65536) {dg : List Int} (hd : dg.length ≤ 1048576) :
    NewR.pre cs dg = true ∧ NewR.fn cs dg = if mayB n dg = true then (some (cs, dg, dg, flagsOf cs.length (newW cs dg), 0, false, 0, -1, false), 0, ()) else (none, 172, ()) := by
  obtain ⟨m1, m2⟩ := mayR.is hC hl (dg := dg) (by omega)
  obtain ⟨i1, i2⟩ := IntsO.ok hd
  refine NewR.is_fn _ _ ?_
  unfold NewR.run'
  rw [if_pos m1, m2]
  by_cases hm : mayB n dg = true
  · have hlen : dg.length = n := by
      unfold mayB at hm
      rw [Bool.and_eq_true, decide_eq_true_eq] at hm
      exact hm.2
    have key := NewR.F6_inv (cuts0 := cs) (degrees1 := dg) (c0x0 := cs) (c0x4 := 0) (c0x5 := false) (c0x6 := 0) (c0x7 := -1) (r1 := dg) (r2 := dg)
      (fun i r => ∃ j : Nat, i = (j : Int) ∧ j ≤ dg.length ∧ r = flagsOf cs.length (marks (fun v => decide (dg.getD v 0 > 0)) (fun v => shN cs (v : Nat)) j (zeroW cs.length)))
      (fun i _ => dg.length - i.toNat) (fun z => z = ((), ((cs, 0, false, 0, -1, ()), dg, dg, flagsOf cs.length (newW cs dg), ()))) (fun i r hI => by
        obtain ⟨j, rfl, hj, rfl⟩ := hI
        unfold NewR.R6
        refine led_dif (fun q1 => ?_) (fun q1 => led_x ?_)
        · have hjl : j < dg.length := by omega
          have hw : IntKind.wrap .i64 ((j : Int) + 1) = (j : Int) + 1 := wr (by omega) (by omega)
          have hs := (sh_at hC (v := (j : Int)) (by omega) (by omega)).1
          have hW := (marks_ok (f := fun v => decide (dg.getD v 0 > 0)) (g := fun v => shN cs (v : Nat)) (zeroW_ok cs.length) j (fun v hv => Nat.le_of_lt (sh_at hC (by omega) (by omega)).1)).1
          obtain ⟨k1, k2⟩ := ShardR.is hC hl (v := (j : Int)) (by omega) (by omega)
          refine led_need (by omega) (led_need q1 ?_)
          rw [Int.toNat_natCast, hw]
          refine led_if (fun c => led_need k1 ?_) (fun c => ?_)
          · rw [k2]
            refine led_need (by omega) (led_need (by rw [flagsOf_len]; omega) (led_need (by rw [flagsOf_len, Int.toNat_natCast]; omega) ?_))
            refine led_k ⟨_, _, rfl, ⟨j + 1, by omega, by omega, ?_⟩, by omega⟩
            rw [marks_succ, if_pos c, Int.toNat_natCast, flags_set hW hs]
          · refine led_k ⟨_, _, rfl, ⟨j + 1, by omega, by omega, ?_⟩, by omega⟩
            rw [marks_succ, if_neg c]
        · obtain rfl : j = dg.length := by omega
          rfl) 0 (List.replicate cs.length false) ⟨0, rfl, by omega, (flags_zero _).symm⟩
    obtain ⟨z, hz, rfl⟩ := key
    have e1 : cs.length * 1 ≤ 140737488355328 := by omega
    simp only [hm, if_true, Bool.not_true, Bool.false_eq_true, if_false, i1, i2, e1, Int.toNat_natCast, hz, bothK_same]
  · rw [Bool.not_eq_true] at hm
    simp only [hm, Bool.not_false, if_true, Bool.false_eq_true, if_false]
/-- Is it a checkpoint of such a search? -/
def fromOk (m : Nat) (dg : List Int) (p : Int) (es : List Int) (fl : List Bool) : Bool := decide (0 ≤ p) && (decide (es.length = dg.length) && (decide (fl.length = m) && (List.range dg.length).all (fun v => decide (0 ≤ es.getD v 0) && decide (es.getD v 0 ≤ dg.getD v 0))))
theorem FromR.is {n : Nat} {cs : List Int} (hC : Cuts n cs) (hl : cs.length ≤ 65536) {dg : List Int} (hd : dg.length ≤ 1048576) {p : Int} {es : List Int} (he : es.length ≤ 1048576) {fl : List Bool} (hf : fl.length ≤ 1048576) :
    FromR.pre cs dg (p, es, fl) = true ∧ FromR.fn cs dg (p, es, fl) = if mayB n dg = true then (if fromOk cs.length dg p es fl = true then (some (cs, dg, es, fl, p, false, 0, -1, false), 0, ()) else (none, 180, ())) else (none, 172, ()) := by
  obtain ⟨m1, m2⟩ := mayR.is hC hl (dg := dg) (by omega)
  obtain ⟨i1, i2⟩ := IntsO.ok hd
  obtain ⟨j1, j2⟩ := IntsO.ok he
  obtain ⟨k1, k2⟩ := BoolsO.ok hf
  refine FromR.is_fn _ _ _ ?_
  unfold FromR.run'
  rw [if_pos m1, m2]
  by_cases hm : mayB n dg = true
  · rw [if_pos hm, if_neg (by rw [hm]; simp)]
    by_cases c1 : p < 0
    · rw [if_neg (by rw [decide_eq_true c1]; simp), if_neg (by unfold fromOk; rw [decide_eq_false (show ¬ 0 ≤ p by omega)]; simp)]
    rw [if_pos (decide_eq_false c1)]
    by_cases c2 : ¬ es.length = dg.length
    · rw [if_neg (by simp; omega), if_neg (by unfold fromOk; rw [decide_eq_false c2]; simp)]
    have c2 := Decidable.not_not.1 c2
    rw [if_pos (by simp [c2])]
    by_cases c3 : ¬ fl.length = cs.length
    · rw [if_pos (by simp; omega), if_neg (by unfold fromOk; rw [decide_eq_false c3]; simp)]
    have c3 := Decidable.not_not.1 c3
    rw [if_neg (by simp [c3])]
    have key := FromR.F7_inv (cuts0 := cs) (degrees1 := dg) (c0x0 := p) (c0x1 := es) (c0x2 := fl) (fun i => ∃ j : Nat, i = (j : Int) ∧ j ≤ dg.length ∧ ∀ k, k < j → 0 ≤ es.getD k 0 ∧ es.getD k 0 ≤ dg.getD k 0) (fun i => dg.length - i.toNat)
      (fun z => (z = Sum.inl ((180, ()), ()) ∧ ∃ k, k < dg.length ∧ ¬ (0 ≤ es.getD k 0 ∧ es.getD k 0 ≤ dg.getD k 0)) ∨ (z = Sum.inr ((cs, dg, ()), ((p, es, fl, ()), ())) ∧ ∀ k, k < dg.length → 0 ≤ es.getD k 0 ∧ es.getD k 0 ≤ dg.getD k 0)) (fun i hI => by
        obtain ⟨j, rfl, hj, hv⟩ := hI
        unfold FromR.R7
        refine led_dif (fun q1 => ?_) (fun q1 => led_x (.inr ⟨rfl, ?_⟩))
        · have hjl : j < dg.length := by omega
          have hw : IntKind.wrap .i64 ((j : Int) + 1) = (j : Int) + 1 := wr (by omega) (by omega)
          refine led_need (by omega) (led_need (by omega) ?_)
          rw [Int.toNat_natCast]
          by_cases h1 : es.getD j 0 < 0
          · rw [decide_eq_true h1]
            exact led_no (by simp) (led_x (.inl ⟨rfl, j, hjl, by omega⟩))
          · rw [decide_eq_false h1]
            refine led_yes rfl (led_need (by omega) (led_need (by omega) (led_need (by omega) (led_need q1 ?_))))
            by_cases h2 : es.getD j 0 > dg.getD j 0
            · rw [decide_eq_true h2]
              exact led_yes rfl (led_x (.inl ⟨rfl, j, hjl, by omega⟩))
            · rw [decide_eq_false h2, hw]
              refine led_no (by simp) (led_k ⟨_, rfl, ⟨j + 1, by omega, by omega, fun k hk => ?_⟩, by omega⟩)
              by_cases e : k = j
              · subst e; omega
              · exact hv k (by omega)
        · intro k hk
          exact hv k (by omega)) 0 ⟨0, rfl, by omega, fun k hk => absurd hk (Nat.not_lt_zero _)⟩
    obtain ⟨z, hz, hq⟩ := key
    rw [hz]
    rcases hq with ⟨rfl, k, hk, hb⟩ | ⟨rfl, hb⟩
    · rw [if_neg]
      unfold fromOk
      simp only [Bool.and_eq_true, List.all_eq_true, decide_eq_true_eq, List.mem_range]
      exact fun h => hb (h.2.2.2 k hk)
    · rw [if_pos]
      · simp only [i1, i2, j1, j2, k1, k2, if_true]
      · unfold fromOk
        simp only [Bool.and_eq_true, List.all_eq_true, decide_eq_true_eq, List.mem_range]
        exact ⟨by omega, c2, c3, hb⟩
  · rw [Bool.not_eq_true] at hm
    simp only [hm, Bool.not_false, if_true, Bool.false_eq_true, if_false]
theorem dirtyR.is {D : List Bool} (hD : D.length ≤ 65536) (cs dg bd : List Int) (p : Int) (u : Bool) (q c : Int) :
    ∃ r : Int, dirtyR.pre cs dg bd D p u q c 0 = true ∧ dirtyR.fn cs dg bd D p u q c 0 = ((cs, dg, bd, D, p, u, q, c, false), r, ()) ∧ (r < 0 ↔ ∀ t, D.getD t false = false) := by
  have key := dirtyR.F2_inv (c0x0 := cs) (c0x4 := p) (c0x5 := u) (c0x6 := q) (c0x7 := c) (r1 := dg) (r2 := bd) (r3 := D) (fun i => ∃ j : Nat, i = (j : Int) ∧ j ≤ D.length ∧ ∀ k, k < j → D.getD k false = false) (fun i => D.length - i.toNat)
    (fun z => (∃ k : Nat, D.getD k false = true ∧ z = Sum.inl (((k : Int), ()), ((cs, p, u, q, c, ()), dg, bd, D, ()))) ∨ (z = Sum.inr ((), ((cs, p, u, q, c, ()), dg, bd, D, ())) ∧ ∀ k, D.getD k false = false)) (fun i hI => by
      obtain ⟨j, rfl, hj, hv⟩ := hI
      unfold dirtyR.R2
      refine led_dif (fun q1 => ?_) (fun q1 => led_x (.inr ⟨rfl, fun k => ?_⟩))
      · have hw : IntKind.wrap .i64 ((j : Int) + 1) = (j : Int) + 1 := wr (by omega) (by omega)
        refine led_need (by omega) (led_need q1 ?_)
        rw [Int.toNat_natCast, hw]
        refine led_if (fun c => led_x (.inl ⟨j, c, rfl⟩)) (fun c => led_k ⟨_, rfl, ⟨j + 1, by omega, by omega, fun k hk => ?_⟩, by omega⟩)
        by_cases e : k = j
        · subst e; simpa using c
        · exact hv k (by omega)
      · by_cases h : k < j
        · exact hv k h
        · rw [List.getD_eq_getElem?_getD, List.getElem?_eq_none (by omega)]
          rfl) 0 ⟨0, rfl, by omega, fun k hk => absurd hk (Nat.not_lt_zero _)⟩
  obtain ⟨z, hz, hq⟩ := key
  rcases hq with ⟨k, hk, rfl⟩ | ⟨rfl, hb⟩
  · refine ⟨(k : Int), ?_⟩
    have := dirtyR.is_fn cs dg bd D p u q c 0 (x := ((cs, dg, bd, D, p, u, q, c, false), (k : Int), ())) (by unfold dirtyR.run'; rw [hz])
    refine ⟨this.1, this.2, fun h => absurd h (by omega), fun h => ?_⟩
    rw [h k] at hk
    cases hk
  · refine ⟨-1, ?_⟩
    have := dirtyR.is_fn cs dg bd D p u q c 0 (x := ((cs, dg, bd, D, p, u, q, c, false), -1, ())) (by unfold dirtyR.run'; rw [hz])
    exact ⟨this.1, this.2, fun _ => hb, fun _ => by omega⟩
theorem DoneR.is {D : List Bool} (hD : D.length ≤ 65536) (cs dg bd : List Int) (p : Int) (q c : Int) :
    ∃ d : Bool, DoneR.pre cs dg bd D p false q c = true ∧ DoneR.fn cs dg bd D p false q c = ((cs, dg, bd, D, p, false, q, c, false), d, ()) ∧ (d = true ↔ ∀ t, D.getD t false = false) := by
  obtain ⟨r, h1, h2, h3⟩ := dirtyR.is hD cs dg bd p false q c
  refine ⟨decide (r < 0), ?_⟩
  have := DoneR.is_fn cs dg bd D p false q c (x := ((cs, dg, bd, D, p, false, q, c, false), decide (r < 0), ())) (by
    unfold DoneR.run'
    simp only [Bool.not_false, if_true, h1, h2, letZ])
  exact ⟨this.1, this.2, by rw [decide_eq_true_eq]; exact h3⟩
theorem PassesR.is (cs dg bd : List Int) (D : List Bool) (p : Int) (u : Bool) (q c : Int) : PassesR.pre cs dg bd D p u q c = true ∧ PassesR.fn cs dg bd D p u q c = ((cs, dg, bd, D, p, u, q, c, false), p, ()) := PassesR.is_fn _ _ _ _ _ _ _ _ rfl
theorem BoundsR.is {bd : List Int} (hb : bd.length ≤ 1048576) (cs dg : List Int) (D : List Bool) (p : Int) (u : Bool) (q c : Int) : BoundsR.pre cs dg bd D p u q c = true ∧ BoundsR.fn cs dg bd D p u q c = ((cs, dg, bd, D, p, u, q, c, false), bd, ()) := by
  refine BoundsR.is_fn _ _ _ _ _ _ _ _ ?_
  unfold BoundsR.run'
  rw [if_pos (IntsO.ok hb).1]
  rfl
theorem DirtyR.is {D : List Bool} (hD : D.length ≤ 1048576) (cs dg bd : List Int) (p : Int) (u : Bool) (q c : Int) : DirtyR.pre cs dg bd D p u q c = true ∧ DirtyR.fn cs dg bd D p u q c = ((cs, dg, bd, D, p, u, q, c, false), D, ()) := by
  refine DirtyR.is_fn _ _ _ _ _ _ _ _ ?_
  unfold DirtyR.run'
  rw [if_pos (BoolsO.ok hD).1]
  rfl
theorem CheckRf.is {bd : List Int} (hb : bd.length ≤ 1048576) {D : List Bool} (hD : D.length ≤ 1048576) (cs dg : List Int) (p : Int) (q c : Int) : CheckRf.pre cs dg bd D p false q c = true ∧ CheckRf.fn cs dg bd D p false q c = ((cs, dg, bd, D, p, false, q, c, false), (p, bd, D), 0, ()) := by
  refine CheckRf.is_fn cs dg bd D p false q c ?_
  unfold CheckRf.run'
  simp only [(IntsO.ok hb).1, (BoolsO.ok hD).1, if_true, Bool.false_eq_true, if_false]
  rfl
theorem SameCheck.is (a : Int × List Int × List Bool) : SameCheck.pre a a = true ∧ SameCheck.fn a a = (true, ()) := by
  refine SameCheck.is_fn _ _ ?_
  unfold SameCheck.run'
  simp only [show ∀ a b, SameIntsH.pre a b = true from fun _ _ => rfl, show ∀ a b, SameBools.pre a b = true from fun _ _ => rfl, SameIntsH.fn, SameBools.fn, decide_true, if_true, beq_self_eq_true]
theorem few.is (a b : List Int) (c : Bool) (p : Int) (es : List Int) (fl : List Bool) : few.pre (a, b, c, p, es, fl) = true ∧ (few.fn (a, b, c, p, es, fl)).1 = decide (a.length ≤ 400 ∧ b.length ≤ 400 ∧ es.length ≤ 400 ∧ fl.length ≤ 400) := by
  have key := few.is_fn (a, b, c, p, es, fl) (x := (decide (a.length ≤ 400 ∧ b.length ≤ 400 ∧ es.length ≤ 400 ∧ fl.length ≤ 400), ())) (by
    unfold few.run'
    by_cases h1 : a.length ≤ 400
    · by_cases h2 : b.length ≤ 400
      · by_cases h3 : es.length ≤ 400
        · simp only [h1, h2, h3, show ((a.length : Int) ≤ 400) from by omega, show ((b.length : Int) ≤ 400) from by omega, show ((es.length : Int) ≤ 400) from by omega, decide_true, if_true, true_and]
          congr 2
          exact decide_eq_decide.2 (by omega)
        · simp only [h1, h2, h3, show ((a.length : Int) ≤ 400) from by omega, show ((b.length : Int) ≤ 400) from by omega, show ¬ ((es.length : Int) ≤ 400) from by omega, decide_true, decide_false, if_true, false_and, and_false, Bool.false_eq_true, if_false]
      · simp only [h1, h2, show ((a.length : Int) ≤ 400) from by omega, show ¬ ((b.length : Int) ≤ 400) from by omega, decide_true, decide_false, if_true, false_and, and_false, Bool.false_eq_true, if_false]
    · simp only [h1, show ¬ ((a.length : Int) ≤ 400) from by omega, decide_false, false_and, Bool.false_eq_true, if_false])
  exact ⟨key.1, by rw [key.2]⟩
/-- Both tell the same of themselves, between two passes. -/
theorem tells.is {n : Nat} {cs : List Int} (hl : cs.length ≤ 65536) {dr : List Int} (hw : Wn cs.length dr) (hin : In cs (bitAt dr)) {bd : List Int} (hb : bd.length ≤ 1048576) (dg dg' : List Int) (p : Int) (q c q' c' : Int) (k : List Int) :
    tells.pre (some cs) dg bd dr p false q c k cs dg' bd (flagsOf cs.length dr) p false q' c' = true ∧ (tells.fn (some cs) dg bd dr p false q c k cs dg' bd (flagsOf cs.length dr) p false q' c').2.2.1 = true := by
  have hW := hw.wds (by omega)
  have hlen : cs.length < 64 * dr.length := by rw [hw.len]; omega
  have hD : (flagsOf cs.length dr).length ≤ 65536 := by rw [flagsOf_len]; exact hl
  obtain ⟨a1, a2⟩ := BoundsE.is (some cs) dg bd dr hb p false q c k
  obtain ⟨b1, b2⟩ := BoundsR.is hb cs dg' (flagsOf cs.length dr) p false q' c'
  obtain ⟨c1, c2⟩ := DirtyE.is hW hlen dg bd p false q c k
  obtain ⟨d1, d2⟩ := DirtyR.is (D := flagsOf cs.length dr) (by omega) cs dg' bd p false q' c'
  obtain ⟨e1, e2⟩ := Check.is hW hlen dg hb p q c k
  obtain ⟨f1, f2⟩ := CheckRf.is hb (D := flagsOf cs.length dr) (by omega) cs dg' p q' c'
  obtain ⟨g1, g2⟩ := SameCheck.is (p, bd, flagsOf cs.length dr)
  obtain ⟨h1, h2⟩ := DoneE.is hW (some cs) dg bd p false q c k
  obtain ⟨d, i1, i2, i3⟩ := DoneR.is hD cs dg' bd p q' c'
  obtain ⟨j1, j2⟩ := PassesE.is (some cs) dg bd dr p false q c k
  obtain ⟨k1, k2⟩ := PassesR.is cs dg' bd (flagsOf cs.length dr) p false q' c'
  have hd : decide (leastN dr 0 < 0) = d := by
    have h3 := dirtyW_iff dr
    unfold dirtyW at h3
    rw [Bool.eq_iff_iff, i3, decide_eq_true_eq]
    rw [decide_eq_true_eq] at h3
    constructor
    · intro h t
      by_cases ht : t < cs.length
      · rw [flagsOf_get ht]
        cases e : bitAt dr t with
        | false => rfl
        | true => exact absurd h (h3.2 ⟨t, e⟩)
      · rw [List.getD_eq_getElem?_getD, List.getElem?_eq_none (by rw [flagsOf_len]; omega)]
        rfl
    · intro h
      by_cases hn : leastN dr 0 < 0
      · exact hn
      · obtain ⟨t, ht⟩ := h3.1 hn
        exfalso
        by_cases hc : t < cs.length
        · have := h t
          rw [flagsOf_get hc, ht] at this
          cases this
        · rw [hin t (by omega)] at ht
          cases ht
  refine (fun (h : tells.run' (some cs) dg bd dr p false q c k cs dg' bd (flagsOf cs.length dr) p false q' c' = some ((some cs, dg, bd, dr, p, false, q, c, k, false), (cs, dg', bd, flagsOf cs.length dr, p, false, q', c', false), true, ())) => by
    have := tells.is_fn _ _ _ _ _ _ _ _ _ _ _ _ _ _ _ _ _ h
    exact ⟨this.1, by rw [this.2]⟩) ?_
  unfold tells.run'
  simp only [a1, a2, b1, b2, c1, c2, d1, d2, e1, e2, f1, f2, g1, g2, h1, h2, i1, i2, j1, j2, k1, k2, letZ, if_true, show ∀ a b, SameIntsH.pre a b = true from fun _ _ => rfl, show ∀ a b, SameBools.pre a b = true from fun _ _ => rfl, SameIntsH.fn, SameBools.fn, decide_true, show num17.pre 0 = true from (num17.is_fn 0 rfl).1, show num17.fn 0 = (0, ()) from (num17.is_fn 0 rfl).2, beq_self_eq_true, Bool.not_false, Bool.true_and, hd]
end Go.Proofs.YthbojpaghbbnnaaDoor.Z
namespace Go.Proofs.YthbojpaghbbnnaaDoor.Z
open Go Go.RowKit
open Go.Proofs.YthbojpaghbbnnaaDoor.Esx
set_option linter.unusedVariables false
set_option linter.unusedSimpArgs false
theorem cuts_of {cs : List Int} (h : ∀ i, i < cs.length → lowC cs i < lowC cs (i + 1)) {n : Nat} (hn : lowC cs cs.length = n) : Cuts n cs := by
  have mono : ∀ d i, i + d ≤ cs.length → lowC cs i + d ≤ lowC cs (i + d) := by
    intro d
    induction d with
    | zero => intro i _; simp
    | succ d ih =>
      intro i hi
      have h1 := ih i (by omega)
      have h2 := h (i + d) (by omega)
      rw [show i + (d + 1) = i + d + 1 by omega]
      push_cast
      omega
  refine ⟨fun i j hij hj => ?_, fun i hi => ?_, hn⟩
  · have := mono (j - i) (i + 1) (by omega)
    rw [show i + 1 + (j - i) = j + 1 by omega] at this
    have e1 : lowC cs (i + 1) = cs.getD i 0 := rfl
    have e2 : lowC cs (j + 1) = cs.getD j 0 := rfl
    omega
  · have := mono (i + 1) 0 (by omega)
    rw [Nat.zero_add] at this
    have e1 : lowC cs (i + 1) = cs.getD i 0 := rfl
    have e2 : lowC cs 0 = 0 := rfl
    omega
theorem layNew.all {cs : List Int} (hl : cs.length ≤ 400) : layNew.pre (lowC cs cs.length) cs = true ∧ ((∃ n : Nat, Cuts n cs ∧ n ≤ 16777216 ∧ layNew.fn (lowC cs cs.length) cs = (some cs, 0, ())) ∨ ∃ e, layNew.fn (lowC cs cs.length) cs = (none, e, ())) := by
  obtain ⟨N, hN⟩ : ∃ N, lowC cs cs.length = N := ⟨_, rfl⟩
  rw [hN]
  by_cases h1 : N < 0
  · have := layNew.is_fn N cs (x := (none, 41, ())) (by unfold layNew.run'; rw [decide_eq_true h1]; rfl)
    exact ⟨this.1, .inr ⟨_, this.2⟩⟩
  by_cases h2 : N > 16777216
  · have := layNew.is_fn N cs (x := (none, 41, ())) (by unfold layNew.run'; rw [decide_eq_false h1, decide_eq_true h2]; rfl)
    exact ⟨this.1, .inr ⟨_, this.2⟩⟩
  have key := layNew.F5_inv (n0 := N) (cuts1 := cs) (t15 := cs) (t16 := (cs.length : Int)) (fun last i => ∃ j : Nat, i = (j : Int) ∧ j ≤ cs.length ∧ last = lowC cs j ∧ ∀ k, k < j → lowC cs k < lowC cs (k + 1)) (fun _ i => cs.length - i.toNat)
    (fun z => z = Sum.inl ((100, ()), ()) ∨ (z = Sum.inr ((N, cs, N, ()), ()) ∧ ∀ k, k < cs.length → lowC cs k < lowC cs (k + 1))) (fun last i hI => by
      obtain ⟨j, rfl, hj, rfl, hv⟩ := hI
      unfold layNew.R5
      refine led_dif (fun q1 => ?_) (fun q1 => led_x (.inr ?_))
      · have hjl : j < cs.length := by omega
        have hw : IntKind.wrap .i64 ((j : Int) + 1) = (j : Int) + 1 := wr (by omega) (by omega)
        have e : lowC cs (j + 1) = cs.getD j 0 := rfl
        refine led_need (by omega) (led_need q1 ?_)
        rw [Int.toNat_natCast, hw]
        by_cases h3 : cs.getD j 0 ≤ lowC cs j
        · rw [decide_eq_true h3]
          exact led_yes rfl (led_x (.inl rfl))
        · rw [decide_eq_false h3]
          refine led_no (by simp) (led_k ⟨_, _, rfl, ⟨j + 1, by omega, by omega, rfl, fun k hk => ?_⟩, by omega⟩)
          by_cases e2 : k = j
          · subst e2; omega
          · exact hv k (by omega)
      · obtain rfl : j = cs.length := by omega
        rw [hN]
        exact ⟨rfl, hv⟩) 0 0 ⟨0, rfl, by omega, rfl, fun k hk => absurd hk (Nat.not_lt_zero _)⟩
  obtain ⟨z, hz, hq⟩ := key
  rcases hq with rfl | ⟨rfl, hv⟩
  · have := layNew.is_fn N cs (x := (none, 100, ())) (by unfold layNew.run'; rw [decide_eq_false h1, decide_eq_false h2, hz]; rfl)
    exact ⟨this.1, .inr ⟨_, this.2⟩⟩
  · have hC : Cuts N.toNat cs := cuts_of hv (by rw [hN]; omega)
    obtain ⟨p1, p2⟩ := layNew.is hC (by omega) (by omega)
    rw [show ((N.toNat : Nat) : Int) = N by omega] at p1 p2
    exact ⟨p1, .inl ⟨N.toNat, hC, by omega, p2⟩⟩
theorem FromE.all {n : Nat} {cs : List Int} (hC : Cuts n cs) (hl : cs.length ≤ 65536) {dg : List Int} (hd : dg.length ≤ 1048576) (p : Int) {es : List Int} (he : es.length ≤ 1048576) {fl : List Bool} (hf : fl.length ≤ 1048576) :
    FromE.pre (some cs) dg (p, es, fl) = true ∧ FromE.fn (some cs) dg (p, es, fl) = if mayB n dg = true then (if fromOk cs.length dg p es fl = true then (some (some cs, dg, es, fromW cs.length fl, p, false, 0, -1, [], false), 0, ()) else (none, 180, ())) else (none, 172, ()) := by
  obtain ⟨m1, m2⟩ := may.is hC hl (dg := dg) (by omega)
  by_cases hm : ¬ mayB n dg = true
  · rw [if_neg hm]
    rw [Bool.not_eq_true] at hm
    refine FromE.is_fn _ _ _ ?_
    unfold FromE.run'
    rw [m2]
    simp only [m1, hm, Bool.not_false, if_true]
  have hm := Decidable.not_not.1 hm
  have hlen : dg.length = n := by
    unfold mayB at hm
    rw [Bool.and_eq_true, decide_eq_true_eq] at hm
    exact hm.2
  rw [if_pos hm]
  by_cases ho : fromOk cs.length dg p es fl = true
  · rw [if_pos ho]
    unfold fromOk at ho
    simp only [Bool.and_eq_true, List.all_eq_true, decide_eq_true_eq, List.mem_range] at ho
    obtain ⟨o1, o2, o3, o4⟩ := ho
    exact FromE.is hC hl (by omega) hm o1 (by omega) (fun v hv => o4 v (by omega)) o3
  rw [if_neg ho]
  have hS : Shards.pre (some cs) = true ∧ Shards.fn (some cs) = ((cs.length : Int), ()) := Shards.is_fn _ rfl
  refine FromE.is_fn _ _ _ ?_
  unfold FromE.run'
  rw [if_pos m1, m2, if_neg (by rw [hm]; simp)]
  by_cases c1 : p < 0
  · rw [if_neg (by rw [decide_eq_true c1]; simp)]
  rw [if_pos (decide_eq_false c1)]
  by_cases c2 : ¬ es.length = dg.length
  · rw [if_neg (by simp; omega)]
  have c2 := Decidable.not_not.1 c2
  rw [if_pos (by simp [c2]), if_pos hS.1, hS.2]
  by_cases c3 : ¬ fl.length = cs.length
  · rw [if_pos (by simp; omega)]
  have c3 := Decidable.not_not.1 c3
  rw [if_neg (by simp [c3])]
  have key := FromE.F6_inv (l0 := some cs) (degrees1 := dg) (t37 := es) (t38 := (es.length : Int)) (c0x0 := p) (c0x1 := es) (c0x2 := fl)
    (fun i => ∃ j : Nat, i = (j : Int) ∧ j ≤ dg.length ∧ ∀ k, k < j → 0 ≤ es.getD k 0 ∧ es.getD k 0 ≤ dg.getD k 0) (fun i => dg.length - i.toNat) (fun z => z = Sum.inl ((180, ()), ())) (fun i hI => by
      obtain ⟨j, rfl, hj, hv⟩ := hI
      unfold FromE.R6
      refine led_dif (fun q1 => ?_) (fun q1 => ?_)
      · have hjl : j < dg.length := by omega
        have hw : IntKind.wrap .i64 ((j : Int) + 1) = (j : Int) + 1 := wr (by omega) (by omega)
        refine led_need (by omega) (led_need q1 ?_)
        rw [Int.toNat_natCast]
        by_cases h1 : es.getD j 0 < 0
        · rw [decide_eq_true h1]
          exact led_no (by simp) (led_x rfl)
        · rw [decide_eq_false h1]
          refine led_yes rfl (led_need (by omega) (led_need (by omega) ?_))
          by_cases h2 : es.getD j 0 > dg.getD j 0
          · rw [decide_eq_true h2]
            exact led_yes rfl (led_x rfl)
          · rw [decide_eq_false h2, hw]
            refine led_no (by simp) (led_k ⟨_, rfl, ⟨j + 1, by omega, by omega, fun k hk => ?_⟩, by omega⟩)
            by_cases e : k = j
            · subst e; omega
            · exact hv k (by omega)
      · exfalso
        apply ho
        unfold fromOk
        simp only [Bool.and_eq_true, List.all_eq_true, decide_eq_true_eq, List.mem_range]
        exact ⟨by omega, c2, c3, fun k hk => hv k (by omega)⟩) 0 ⟨0, rfl, by omega, fun k hk => absurd hk (Nat.not_lt_zero _)⟩
  obtain ⟨z, hz, rfl⟩ := key
  rw [hz]
end Go.Proofs.YthbojpaghbbnnaaDoor.Z
