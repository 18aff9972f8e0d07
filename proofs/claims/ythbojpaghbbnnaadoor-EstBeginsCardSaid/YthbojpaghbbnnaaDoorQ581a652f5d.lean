/- A part of a claim: what its statement needs. No condition. -/
import Derived.Test.YthbojpaghbbnnaaDoorQ9c9ab429ac
import Derived.KernelRfl
namespace Go.Proofs.YthbojpaghbbnnaaDoor.Z
open Go Go.RowKit
set_option linter.unusedVariables false
set_option linter.unusedSimpArgs false
namespace LayN
abbrev ps : List PM := [.val (.ptr Ly)]
abbrev rs : List PM := [.val I64]
noncomputable abbrev code : Code := (Go.Proofs.Tryd.f62.body.getD .skip)
noncomputable def env : Env := mkEnv tabD [] 0 [(3, [0, 1, 2, 3, 4, 5, 6, 7, 8, 9, 10, 11, 12])] []
abbrev D : Type := (Int × Unit)
noncomputable def run' (l0 : (Option (List Int))) : Option D := (if Option.isSome l0 = Bool.true then (if ((↑(List.length (Option.getD l0 [])) : Int) == (0 : Int)) = Bool.true then some ((0 : Int), ())
 else (if Option.isSome l0 = Bool.true then (if Option.isSome l0 = Bool.true then (if (0 : Int) ≤ IntKind.wrap .i64 ((↑(List.length (Option.getD l0 [])) : Int) - (1 : Int)) then (if IntKind.wrap .i64 ((↑(List.length (Option.getD l0 [])) : Int) - (1 : Int)) < (↑(List.length (Option.getD l0 [])) : Int) then some (List.getD (Option.getD l0 []) (Int.toNat (IntKind.wrap .i64 ((↑(List.length (Option.getD l0 [])) : Int) - (1 : Int)))) (0 : Int), ())
 else none)
 else none)
 else none)
 else none))
 else none)
noncomputable def run (d : Ds (List.map PM.ty ps)) : Option (Ds (muts ps ++ List.map PM.ty rs)) := match d with
  | (l0, _) => run' l0
theorem run_is : ∀ d, runF env 21 code [2] ps rs d = run d := fun d => by kernel_rfl
theorem loops : LoopsOk env code := loopsOk_of (l := []) (by kernel_rfl) (fun p hp => by
  cases hp)
noncomputable def pre (l0 : (Option (List Int))) : Bool := (run' l0).isSome
noncomputable def fn (l0 : (Option (List Int))) : D := match run' l0 with
  | some x => x
  | none => default
noncomputable def sig : Sig := ⟨ps, rs, fun d => match d with
  | (l0, _) => pre l0, fun d => match d with
  | (l0, _) => fn l0, false⟩
theorem run_fn (l0 : (Option (List Int))) (h : pre l0 = true) : run' l0 = some (fn l0) := by
  unfold pre at h
  unfold fn
  cases e : run' l0 with
  | some x => rfl
  | none => rw [e] at h; cases h
theorem is_fn (l0 : (Option (List Int))) {x : D} (h : run' l0 = some x) : pre l0 = true ∧ fn l0 = x := by
  unfold pre fn
  rw [h]
  exact ⟨rfl, rfl⟩
theorem sound {ρ : Obs} (hE : EnvOk Go.Proofs.Tryd.prog ρ env) : Sound Go.Proofs.Tryd.prog ρ 62 sig := sound_of (fn := Go.Proofs.Tryd.f62) (c := code) (res := [2]) hE (by kernel_rfl) (by kernel_rfl) (by kernel_rfl) (by kernel_rfl) (by kernel_rfl) loops rfl (show 1 ≤ 21 by decide) (fun d hd => (run_is d).trans (by
  obtain ⟨l0, _⟩ := d
  exact run_fn l0 hd))
theorem enters : Enters Go.Proofs.Tryd.prog 62 := enters_of (fn := Go.Proofs.Tryd.f62) (by kernel_rfl) (by kernel_rfl) (by kernel_rfl)
theorem ok {ρ : Obs} (h : ∀ p ∈ ([] : List (FuncId × Sig)), Enters Go.Proofs.Tryd.prog p.1 ∧ Sound Go.Proofs.Tryd.prog ρ p.1 p.2) : Enters Go.Proofs.Tryd.prog 62 ∧ Sound Go.Proofs.Tryd.prog ρ 62 sig := ⟨enters, sound (envOk_of tabDOk h)⟩
theorem okR : Enters Go.Proofs.Tryd.prog 62 ∧ Sound Go.Proofs.Tryd.prog rho 62 sig := ok (fun p hp => by
  cases hp)
end LayN
namespace Shards
abbrev ps : List PM := [.val (.ptr Ly)]
abbrev rs : List PM := [.val I64]
noncomputable abbrev code : Code := (Go.Proofs.Tryd.f22.body.getD .skip)
noncomputable def env : Env := mkEnv tabD [] 0 [] []
abbrev D : Type := (Int × Unit)
noncomputable def run' (l0 : (Option (List Int))) : Option D := (if Option.isSome l0 = Bool.true then some ((↑(List.length (Option.getD l0 [])) : Int), ())
 else none)
noncomputable def run (d : Ds (List.map PM.ty ps)) : Option (Ds (muts ps ++ List.map PM.ty rs)) := match d with
  | (l0, _) => run' l0
theorem run_is : ∀ d, runF env 8 code [2] ps rs d = run d := fun d => by kernel_rfl
theorem loops : LoopsOk env code := loopsOk_of (l := []) (by kernel_rfl) (fun p hp => by
  cases hp)
noncomputable def pre (l0 : (Option (List Int))) : Bool := (run' l0).isSome
noncomputable def fn (l0 : (Option (List Int))) : D := match run' l0 with
  | some x => x
  | none => default
noncomputable def sig : Sig := ⟨ps, rs, fun d => match d with
  | (l0, _) => pre l0, fun d => match d with
  | (l0, _) => fn l0, false⟩
theorem run_fn (l0 : (Option (List Int))) (h : pre l0 = true) : run' l0 = some (fn l0) := by
  unfold pre at h
  unfold fn
  cases e : run' l0 with
  | some x => rfl
  | none => rw [e] at h; cases h
theorem is_fn (l0 : (Option (List Int))) {x : D} (h : run' l0 = some x) : pre l0 = true ∧ fn l0 = x := by
  unfold pre fn
  rw [h]
  exact ⟨rfl, rfl⟩
theorem sound {ρ : Obs} (hE : EnvOk Go.Proofs.Tryd.prog ρ env) : Sound Go.Proofs.Tryd.prog ρ 22 sig := sound_of (fn := Go.Proofs.Tryd.f22) (c := code) (res := [2]) hE (by kernel_rfl) (by kernel_rfl) (by kernel_rfl) (by kernel_rfl) (by kernel_rfl) loops rfl (show 1 ≤ 8 by decide) (fun d hd => (run_is d).trans (by
  obtain ⟨l0, _⟩ := d
  exact run_fn l0 hd))
theorem enters : Enters Go.Proofs.Tryd.prog 22 := enters_of (fn := Go.Proofs.Tryd.f22) (by kernel_rfl) (by kernel_rfl) (by kernel_rfl)
theorem ok {ρ : Obs} (h : ∀ p ∈ ([] : List (FuncId × Sig)), Enters Go.Proofs.Tryd.prog p.1 ∧ Sound Go.Proofs.Tryd.prog ρ p.1 p.2) : Enters Go.Proofs.Tryd.prog 22 ∧ Sound Go.Proofs.Tryd.prog ρ 22 sig := ⟨enters, sound (envOk_of tabDOk h)⟩
theorem okR : Enters Go.Proofs.Tryd.prog 22 ∧ Sound Go.Proofs.Tryd.prog rho 22 sig := ok (fun p hp => by
  cases hp)
end Shards
namespace RangeL
abbrev ps : List PM := [.val (.ptr Ly), .val I64]
abbrev rs : List PM := [.val I64, .val I64]
noncomputable abbrev code : Code := (Go.Proofs.Tryd.f26.body.getD .skip)
noncomputable def env : Env := mkEnv tabD [] 0 [(4, [0, 1, 2, 3, 4, 5, 6, 7]), (5, [0, 1, 2, 3, 4, 5, 6, 7, 8, 9, 10, 11, 12, 13, 14, 15, 16])] []
abbrev D : Type := (Int × Int × Unit)
noncomputable def run' (l0 : (Option (List Int))) (i1 : Int) : Option D := (if Decidable.decide (i1 < (0 : Int)) = Bool.false then (if Option.isSome l0 = Bool.true then (if Decidable.decide (i1 ≥ (↑(List.length (Option.getD l0 [])) : Int)) = Bool.true then some ((0 : Int), (0 : Int), ())
 else (if (i1 == (0 : Int)) = Bool.true then (if Option.isSome l0 = Bool.true then (if (0 : Int) < (↑(List.length (Option.getD l0 [])) : Int) then some ((0 : Int), List.getD (Option.getD l0 []) (Int.toNat (0 : Int)) (0 : Int), ())
 else none)
 else none)
 else (if Option.isSome l0 = Bool.true then (if (0 : Int) ≤ IntKind.wrap .i64 (i1 - (1 : Int)) then (if IntKind.wrap .i64 (i1 - (1 : Int)) < (↑(List.length (Option.getD l0 [])) : Int) then (if Option.isSome l0 = Bool.true then (if (0 : Int) ≤ i1 then (if i1 < (↑(List.length (Option.getD l0 [])) : Int) then some (List.getD (Option.getD l0 []) (Int.toNat (IntKind.wrap .i64 (i1 - (1 : Int)))) (0 : Int), List.getD (Option.getD l0 []) (Int.toNat i1) (0 : Int), ())
 else none)
 else none)
 else none)
 else none)
 else none)
 else none)))
 else none)
 else some ((0 : Int), (0 : Int), ()))
noncomputable def run (d : Ds (List.map PM.ty ps)) : Option (Ds (muts ps ++ List.map PM.ty rs)) := match d with
  | (l0, i1, _) => run' l0 i1
theorem run_is : ∀ d, runF env 40 code [4, 5] ps rs d = run d := fun d => by kernel_rfl
theorem loops : LoopsOk env code := loopsOk_of (l := []) (by kernel_rfl) (fun p hp => by
  cases hp)
noncomputable def pre (l0 : (Option (List Int))) (i1 : Int) : Bool := (run' l0 i1).isSome
noncomputable def fn (l0 : (Option (List Int))) (i1 : Int) : D := match run' l0 i1 with
  | some x => x
  | none => default
noncomputable def sig : Sig := ⟨ps, rs, fun d => match d with
  | (l0, i1, _) => pre l0 i1, fun d => match d with
  | (l0, i1, _) => fn l0 i1, false⟩
theorem run_fn (l0 : (Option (List Int))) (i1 : Int) (h : pre l0 i1 = true) : run' l0 i1 = some (fn l0 i1) := by
  unfold pre at h
  unfold fn
  cases e : run' l0 i1 with
  | some x => rfl
  | none => rw [e] at h; cases h
theorem is_fn (l0 : (Option (List Int))) (i1 : Int) {x : D} (h : run' l0 i1 = some x) : pre l0 i1 = true ∧ fn l0 i1 = x := by
  unfold pre fn
  rw [h]
  exact ⟨rfl, rfl⟩
theorem sound {ρ : Obs} (hE : EnvOk Go.Proofs.Tryd.prog ρ env) : Sound Go.Proofs.Tryd.prog ρ 26 sig := sound_of (fn := Go.Proofs.Tryd.f26) (c := code) (res := [4, 5]) hE (by kernel_rfl) (by kernel_rfl) (by kernel_rfl) (by kernel_rfl) (by kernel_rfl) loops rfl (show 2 ≤ 40 by decide) (fun d hd => (run_is d).trans (by
  obtain ⟨l0, i1, _⟩ := d
  exact run_fn l0 i1 hd))
theorem enters : Enters Go.Proofs.Tryd.prog 26 := enters_of (fn := Go.Proofs.Tryd.f26) (by kernel_rfl) (by kernel_rfl) (by kernel_rfl)
theorem ok {ρ : Obs} (h : ∀ p ∈ ([] : List (FuncId × Sig)), Enters Go.Proofs.Tryd.prog p.1 ∧ Sound Go.Proofs.Tryd.prog ρ p.1 p.2) : Enters Go.Proofs.Tryd.prog 26 ∧ Sound Go.Proofs.Tryd.prog ρ 26 sig := ⟨enters, sound (envOk_of tabDOk h)⟩
theorem okR : Enters Go.Proofs.Tryd.prog 26 ∧ Sound Go.Proofs.Tryd.prog rho 26 sig := ok (fun p hp => by
  cases hp)
end RangeL
namespace layNew
abbrev ps : List PM := [.val I64, .val (.list I64)]
abbrev rs : List PM := [.val (.ptr Ly), .val I64]
noncomputable abbrev code : Code := (Go.Proofs.Tryd.f39.body.getD .skip)
abbrev s5 : Shape := ⟨[.v I64, .v (.list I64), .un, .un, .un, .un, .v I64, .un, .un, .un, .un, .un, .un, .un, .un, .v (.list I64), .v I64, .v I64, .un, .un, .un, .un, .un, .un, .un, .un, .un, .un, .un, .un, .un, .un, .un, .un, .un, .un, .un, .un, .un, .un, .un], []⟩
abbrev x5 : List Way := [⟨.rt, ⟨[(4, none), (5, none)]⟩, ⟨[.un, .un, .un, .un, .nlp, .v I64, .un, .un, .un, .un, .un, .un, .un, .un, .un, .un, .un, .un, .un, .un, .un, .un, .un, .un, .un, .un, .un, .un, .un, .un, .un, .un, .un, .un, .un, .un, .un, .un, .un, .un, .un], []⟩⟩, ⟨(.ex 0), ⟨[(0, none), (1, none), (6, none)]⟩, ⟨[.v I64, .v (.list I64), .un, .un, .un, .un, .v I64, .un, .un, .un, .un, .un, .un, .un, .un, .un, .un, .un, .un, .un, .un, .un, .un, .un, .un, .un, .un, .un, .un, .un, .un, .un, .un, .un, .un, .un, .un, .un, .un, .un, .un], []⟩⟩]
abbrev V5 : Type := (Int × (List Int) × Int × (List Int) × Int × Int × Unit) × (Unit)
abbrev X5 : Type := ((Int × Unit) × (Unit)) ⊕ ((Int × (List Int) × Int × Unit) × (Unit))
noncomputable def R5 {R : Type} (n0 : Int) (cuts1 : (List Int)) (last6 : Int) (t15 : (List Int)) (t16 : Int) (t17 : Int) (k : V5 → Option R) (kx : X5 → Option R) : Option R := (if Decidable.decide (t17 < t16) = Bool.true then (if (0 : Int) ≤ t17 then (if t17 < (↑(List.length t15) : Int) then (if Decidable.decide (List.getD t15 (Int.toNat t17) (0 : Int) ≤ last6) = Bool.true then kx (Sum.inl <| (((100 : Int), ()), (())))
 else k ((n0, cuts1, List.getD t15 (Int.toNat t17) (0 : Int), t15, t16, IntKind.wrap .i64 (t17 + (1 : Int)), ()), (())))
 else none)
 else none)
 else kx (Sum.inr <| ((n0, cuts1, last6, ()), (()))))
noncomputable def rd5 : Rd (VO s5) (Xs x5) := fun v k kx => match v with
  | ((n0, cuts1, last6, t15, t16, t17, _), _) => R5 n0 cuts1 last6 t15 t16 t17 k kx
noncomputable def F5 (n0 : Int) (cuts1 : (List Int)) (last6 : Int) (t15 : (List Int)) (t16 : Int) (t17 : Int) : Option X5 := finOf rd5 ((n0, cuts1, last6, t15, t16, t17, ()), (()))
theorem F5_inv {n0 : Int} {cuts1 : (List Int)} {t15 : (List Int)} {t16 : Int} (I : Int → Int → Prop) (μ : Int → Int → Nat) (Q : X5 → Prop) (h : ∀ (last6 : Int) (t17 : Int), I last6 t17 → Led (fun (R : Type) (k : V5 → Option R) (kx : X5 → Option R) => R5 n0 cuts1 last6 t15 t16 t17 k kx) (fun v => ∃ (last6' : Int) (t17' : Int), v = ((n0, cuts1, last6', t15, t16, t17', ()), ()) ∧ I last6' t17' ∧ μ last6' t17' < μ last6 t17) Q) : ∀ (last6 : Int) (t17 : Int), I last6 t17 → ∃ z, F5 n0 cuts1 last6 t15 t16 t17 = some z ∧ Q z := fun last6 t17 hi => by
  refine finOf_inv (V := V5) (X := X5) (rd := rd5) (fun v => ∃ (last6' : Int) (t17' : Int), v = ((n0, cuts1, last6', t15, t16, t17', ()), ()) ∧ I last6' t17') (fun v => match v with
    | ((n0, cuts1, last6, t15, t16, t17, _), _) => μ last6 t17) Q (fun v hv => ?_) ((n0, cuts1, last6, t15, t16, t17, ()), ()) ⟨last6, t17, rfl, hi⟩
  obtain ⟨last6, t17, rfl, hi⟩ := hv
  refine led_mono (h last6 t17 hi) ?_ (fun _ q => q)
  rintro v ⟨last6', t17', rfl, h1, h2⟩
  exact ⟨⟨last6', t17', rfl, h1⟩, h2⟩
noncomputable def L5 : Lp := ⟨5, ⟨[(0, none), (1, none), (6, none), (15, none), (16, none), (17, none)]⟩, s5, x5, fun v => match v with
  | ((n0, cuts1, last6, t15, t16, t17, _), _) => F5 n0 cuts1 last6 t15 t16 t17⟩
theorem ends5 : Ends L5 rd5 := ends_fin (fun v => by
  obtain ⟨⟨n0, cuts1, last6, t15, t16, t17, _⟩, ⟨_⟩⟩ := v
  rfl)
noncomputable def env : Env := mkEnv tabD [] 0 [] [L5]
theorem round5 : RoundIs env (sub [true, true, true, false, true, false, false] code) L5 rd5 := fun R v k kx => by kernel_rfl
abbrev D : Type := ((Option (List Int)) × Int × Unit)
noncomputable def run' (n0 : Int) (cuts1 : (List Int)) : Option D := (if Decidable.decide (n0 < (0 : Int)) = Bool.false then (if Decidable.decide (n0 > (16777216 : Int)) = Bool.true then some (Option.none, (41 : Int), ())
 else (match F5 (n0) (cuts1) ((0 : Int)) (cuts1) ((↑(List.length cuts1) : Int)) ((0 : Int)) with
  | some (Sum.inl <| ((t5_1, _), _)) => some (Option.none, t5_1, ())
  | some (Sum.inr <| ((n0_2, cuts1_2, last6_2, _), _)) => (if (last6_2 != n0_2) = Bool.false then (if Decidable.decide ((↑(List.length cuts1_2) : Int) > (1000 : Int)) = Bool.true then some (Option.none, (100 : Int), ())
 else (if Int.toNat (↑(List.length cuts1_2) : Int) * (8 : Nat) ≤ (140737488355328 : Nat) then (if ((0 : Nat) + List.length cuts1_2) * (8 : Nat) ≤ (140737488355328 : Nat) then some (Option.some ([] ++ cuts1_2), (0 : Int), ())
 else none)
 else none))
 else some (Option.none, (100 : Int), ()))
  | none => none))
 else some (Option.none, (41 : Int), ()))
noncomputable def run (d : Ds (List.map PM.ty ps)) : Option (Ds (muts ps ++ List.map PM.ty rs)) := match d with
  | (n0, cuts1, _) => run' n0 cuts1
theorem run_is : ∀ d, runF env 41 code [4, 5] ps rs d = run d := fun d => by kernel_rfl
theorem loops : LoopsOk env code := loopsOk_of (l := [[true, true, true, false, true, false, false]]) (by kernel_rfl) (fun p hp => by
  simp only [List.mem_cons, List.not_mem_nil, or_false] at hp
  rcases hp with rfl
  · exact loopOk_lp (L := L5) (x := sub [true, true, true, false, true, false, false] code) (by kernel_rfl) (by simp [L5]) round5 ends5
  )
noncomputable def pre (n0 : Int) (cuts1 : (List Int)) : Bool := (run' n0 cuts1).isSome
noncomputable def fn (n0 : Int) (cuts1 : (List Int)) : D := match run' n0 cuts1 with
  | some x => x
  | none => default
noncomputable def sig : Sig := ⟨ps, rs, fun d => match d with
  | (n0, cuts1, _) => pre n0 cuts1, fun d => match d with
  | (n0, cuts1, _) => fn n0 cuts1, false⟩
theorem run_fn (n0 : Int) (cuts1 : (List Int)) (h : pre n0 cuts1 = true) : run' n0 cuts1 = some (fn n0 cuts1) := by
  unfold pre at h
  unfold fn
  cases e : run' n0 cuts1 with
  | some x => rfl
  | none => rw [e] at h; cases h
theorem is_fn (n0 : Int) (cuts1 : (List Int)) {x : D} (h : run' n0 cuts1 = some x) : pre n0 cuts1 = true ∧ fn n0 cuts1 = x := by
  unfold pre fn
  rw [h]
  exact ⟨rfl, rfl⟩
theorem sound {ρ : Obs} (hE : EnvOk Go.Proofs.Tryd.prog ρ env) : Sound Go.Proofs.Tryd.prog ρ 39 sig := sound_of (fn := Go.Proofs.Tryd.f39) (c := code) (res := [4, 5]) hE (by kernel_rfl) (by kernel_rfl) (by kernel_rfl) (by kernel_rfl) (by kernel_rfl) loops rfl (show 2 ≤ 41 by decide) (fun d hd => (run_is d).trans (by
  obtain ⟨n0, cuts1, _⟩ := d
  exact run_fn n0 cuts1 hd))
theorem enters : Enters Go.Proofs.Tryd.prog 39 := enters_of (fn := Go.Proofs.Tryd.f39) (by kernel_rfl) (by kernel_rfl) (by kernel_rfl)
theorem ok {ρ : Obs} (h : ∀ p ∈ ([] : List (FuncId × Sig)), Enters Go.Proofs.Tryd.prog p.1 ∧ Sound Go.Proofs.Tryd.prog ρ p.1 p.2) : Enters Go.Proofs.Tryd.prog 39 ∧ Sound Go.Proofs.Tryd.prog ρ 39 sig := ⟨enters, sound (envOk_of tabDOk h)⟩
theorem okR : Enters Go.Proofs.Tryd.prog 39 ∧ Sound Go.Proofs.Tryd.prog rho 39 sig := ok (fun p hp => by
  cases hp)
end layNew
namespace may
abbrev ps : List PM := [.val (.ptr Ly), .val (.list I64)]
abbrev rs : List PM := [.val .bool]
noncomputable abbrev code : Code := (Go.Proofs.Tryd.f53.body.getD .skip)
abbrev s2 : Shape := ⟨[.v (.ptr (.one (.list I64))), .v (.list I64), .un, .un, .un, .un, .un, .v (.list I64), .v I64, .v I64, .un, .un, .un, .un, .un, .un, .un, .un, .un, .un, .un, .un, .un, .un, .un, .un, .un], []⟩
abbrev x2 : List Way := [⟨.rt, ⟨[(4, none)]⟩, ⟨[.un, .un, .un, .un, .v .bool, .un, .un, .un, .un, .un, .un, .un, .un, .un, .un, .un, .un, .un, .un, .un, .un, .un, .un, .un, .un, .un, .un], []⟩⟩, ⟨(.ex 0), ⟨[(0, none), (1, none)]⟩, ⟨[.v (.ptr (.one (.list I64))), .v (.list I64), .un, .un, .un, .un, .un, .un, .un, .un, .un, .un, .un, .un, .un, .un, .un, .un, .un, .un, .un, .un, .un, .un, .un, .un, .un], []⟩⟩]
abbrev V2 : Type := ((Option (List Int)) × (List Int) × (List Int) × Int × Int × Unit) × (Unit)
abbrev X2 : Type := ((Bool × Unit) × (Unit)) ⊕ (((Option (List Int)) × (List Int) × Unit) × (Unit))
noncomputable def R2 {R : Type} (l0 : (Option (List Int))) (degrees1 : (List Int)) (t7 : (List Int)) (t8 : Int) (t9 : Int) (k : V2 → Option R) (kx : X2 → Option R) : Option R := (if Decidable.decide (t9 < t8) = Bool.true then (if (0 : Int) ≤ t9 then (if t9 < (↑(List.length t7) : Int) then (if Decidable.decide (List.getD t7 (Int.toNat t9) (0 : Int) < (0 : Int)) = Bool.false then (if LayN.pre l0 = Bool.true then (if Decidable.decide (List.getD t7 (Int.toNat t9) (0 : Int) ≥ (LayN.fn l0).1) = Bool.true then kx (Sum.inl <| ((Bool.false, ()), (())))
 else k ((l0, degrees1, t7, t8, IntKind.wrap .i64 (t9 + (1 : Int)), ()), (())))
 else none)
 else kx (Sum.inl <| ((Bool.false, ()), (()))))
 else none)
 else none)
 else kx (Sum.inr <| ((l0, degrees1, ()), (()))))
noncomputable def rd2 : Rd (VO s2) (Xs x2) := fun v k kx => match v with
  | ((l0, degrees1, t7, t8, t9, _), _) => R2 l0 degrees1 t7 t8 t9 k kx
noncomputable def F2 (l0 : (Option (List Int))) (degrees1 : (List Int)) (t7 : (List Int)) (t8 : Int) (t9 : Int) : Option X2 := finOf rd2 ((l0, degrees1, t7, t8, t9, ()), (()))
theorem F2_inv {l0 : (Option (List Int))} {degrees1 : (List Int)} {t7 : (List Int)} {t8 : Int} (I : Int → Prop) (μ : Int → Nat) (Q : X2 → Prop) (h : ∀ (t9 : Int), I t9 → Led (fun (R : Type) (k : V2 → Option R) (kx : X2 → Option R) => R2 l0 degrees1 t7 t8 t9 k kx) (fun v => ∃ (t9' : Int), v = ((l0, degrees1, t7, t8, t9', ()), ()) ∧ I t9' ∧ μ t9' < μ t9) Q) : ∀ (t9 : Int), I t9 → ∃ z, F2 l0 degrees1 t7 t8 t9 = some z ∧ Q z := fun t9 hi => by
  refine finOf_inv (V := V2) (X := X2) (rd := rd2) (fun v => ∃ (t9' : Int), v = ((l0, degrees1, t7, t8, t9', ()), ()) ∧ I t9') (fun v => match v with
    | ((l0, degrees1, t7, t8, t9, _), _) => μ t9) Q (fun v hv => ?_) ((l0, degrees1, t7, t8, t9, ()), ()) ⟨t9, rfl, hi⟩
  obtain ⟨t9, rfl, hi⟩ := hv
  refine led_mono (h t9 hi) ?_ (fun _ q => q)
  rintro v ⟨t9', rfl, h1, h2⟩
  exact ⟨⟨t9', rfl, h1⟩, h2⟩
noncomputable def L2 : Lp := ⟨2, ⟨[(0, none), (1, none), (7, none), (8, none), (9, none)]⟩, s2, x2, fun v => match v with
  | ((l0, degrees1, t7, t8, t9, _), _) => F2 l0 degrees1 t7 t8 t9⟩
theorem ends2 : Ends L2 rd2 := ends_fin (fun v => by
  obtain ⟨⟨l0, degrees1, t7, t8, t9, _⟩, ⟨_⟩⟩ := v
  rfl)
noncomputable def env : Env := mkEnv tabD [(62, LayN.sig)] 0 [] [L2]
theorem round2 : RoundIs env (sub [true, false, true, false, false] code) L2 rd2 := fun R v k kx => by kernel_rfl
abbrev D : Type := (Bool × Unit)
noncomputable def run' (l0 : (Option (List Int))) (degrees1 : (List Int)) : Option D := (match F2 (l0) (degrees1) (degrees1) ((↑(List.length degrees1) : Int)) ((0 : Int)) with
  | some (Sum.inl <| ((t4_1, _), _)) => some (t4_1, ())
  | some (Sum.inr <| ((l0_2, degrees1_2, _), _)) => (if LayN.pre l0_2 = Bool.true then some ((↑(List.length degrees1_2) : Int) == (LayN.fn l0_2).1, ())
 else none)
  | none => none)
noncomputable def run (d : Ds (List.map PM.ty ps)) : Option (Ds (muts ps ++ List.map PM.ty rs)) := match d with
  | (l0, degrees1, _) => run' l0 degrees1
theorem run_is : ∀ d, runF env 27 code [4] ps rs d = run d := fun d => by kernel_rfl
theorem loops : LoopsOk env code := loopsOk_of (l := [[true, false, true, false, false]]) (by kernel_rfl) (fun p hp => by
  simp only [List.mem_cons, List.not_mem_nil, or_false] at hp
  rcases hp with rfl
  · exact loopOk_lp (L := L2) (x := sub [true, false, true, false, false] code) (by kernel_rfl) (by simp [L2]) round2 ends2
  )
noncomputable def pre (l0 : (Option (List Int))) (degrees1 : (List Int)) : Bool := (run' l0 degrees1).isSome
noncomputable def fn (l0 : (Option (List Int))) (degrees1 : (List Int)) : D := match run' l0 degrees1 with
  | some x => x
  | none => default
noncomputable def sig : Sig := ⟨ps, rs, fun d => match d with
  | (l0, degrees1, _) => pre l0 degrees1, fun d => match d with
  | (l0, degrees1, _) => fn l0 degrees1, false⟩
theorem run_fn (l0 : (Option (List Int))) (degrees1 : (List Int)) (h : pre l0 degrees1 = true) : run' l0 degrees1 = some (fn l0 degrees1) := by
  unfold pre at h
  unfold fn
  cases e : run' l0 degrees1 with
  | some x => rfl
  | none => rw [e] at h; cases h
theorem is_fn (l0 : (Option (List Int))) (degrees1 : (List Int)) {x : D} (h : run' l0 degrees1 = some x) : pre l0 degrees1 = true ∧ fn l0 degrees1 = x := by
  unfold pre fn
  rw [h]
  exact ⟨rfl, rfl⟩
theorem sound {ρ : Obs} (hE : EnvOk Go.Proofs.Tryd.prog ρ env) : Sound Go.Proofs.Tryd.prog ρ 53 sig := sound_of (fn := Go.Proofs.Tryd.f53) (c := code) (res := [4]) hE (by kernel_rfl) (by kernel_rfl) (by kernel_rfl) (by kernel_rfl) (by kernel_rfl) loops rfl (show 2 ≤ 27 by decide) (fun d hd => (run_is d).trans (by
  obtain ⟨l0, degrees1, _⟩ := d
  exact run_fn l0 degrees1 hd))
theorem enters : Enters Go.Proofs.Tryd.prog 53 := enters_of (fn := Go.Proofs.Tryd.f53) (by kernel_rfl) (by kernel_rfl) (by kernel_rfl)
theorem ok {ρ : Obs} (h : ∀ p ∈ ([(62, LayN.sig)] : List (FuncId × Sig)), Enters Go.Proofs.Tryd.prog p.1 ∧ Sound Go.Proofs.Tryd.prog ρ p.1 p.2) : Enters Go.Proofs.Tryd.prog 53 ∧ Sound Go.Proofs.Tryd.prog ρ 53 sig := ⟨enters, sound (envOk_of tabDOk h)⟩
theorem okR : Enters Go.Proofs.Tryd.prog 53 ∧ Sound Go.Proofs.Tryd.prog rho 53 sig := ok (fun p hp => by
  simp only [List.mem_cons, List.not_mem_nil, or_false] at hp
  rcases hp with rfl
  · exact LayN.okR)
end may
namespace mark
abbrev ps : List PM := [.bx 93 [.v (.ptr Ly), .r 3 I64 false, .r 3 I64 false, .r 97 U64 false, .v I64, .v .bool, .v I64, .v I64, .r 3 I64 true], .val I64]
abbrev rs : List PM := []
noncomputable abbrev code : Code := (Go.Proofs.Tryd.f55.body.getD .skip)
noncomputable def env : Env := mkEnvF tabD [] 5 (fixL ps) [(0, [0, 1, 2, 3, 4, 5, 6, 7, 8, 9, 10, 11, 12, 13])] []
abbrev D : Type := (((Option (List Int)) × ((List Int) × ((List Int) × ((List Int) × (Int × (Bool × (Int × (Int × ((List Int) × Bool))))))))) × Unit)
noncomputable def run' (e0_0 : (Option (List Int))) (e0_1 : (List Int)) (e0_2 : (List Int)) (e0_3 : (List Int)) (e0_4 : Int) (e0_5 : Bool) (e0_6 : Int) (e0_7 : Int) (e0_8 : (List Int)) (shard1 : Int) : Option D := (if (0 : Int) ≤ IntKind.wrap .i64 (Int.tdiv shard1 (64 : Int)) then (if IntKind.wrap .i64 (Int.tdiv shard1 (64 : Int)) < (↑(List.length e0_3) : Int) then (if (0 : Int) ≤ Int.tmod shard1 (64 : Int) then (if (0 : Int) ≤ IntKind.wrap .i64 (Int.tdiv shard1 (64 : Int)) then (if IntKind.wrap .i64 (Int.tdiv shard1 (64 : Int)) < (↑(List.length e0_3) : Int) then (if Int.toNat (IntKind.wrap .i64 (Int.tdiv shard1 (64 : Int))) < List.length e0_3 then some ((e0_0, e0_1, e0_2, List.set e0_3 (Int.toNat (IntKind.wrap .i64 (Int.tdiv shard1 (64 : Int)))) (bitsZ Go.BinOp.or Go.IntKind.u64 (List.getD e0_3 (Int.toNat (IntKind.wrap .i64 (Int.tdiv shard1 (64 : Int)))) (0 : Int)) (Go.IntKind.wrap Go.IntKind.u64 ((1 : Int) * (2 : Int) ^ Min.min (Int.toNat (Int.tmod shard1 (64 : Int))) (64 : Nat)))), e0_4, e0_5, e0_6, e0_7, e0_8, Bool.false), ())
 else none)
 else none)
 else none)
 else none)
 else none)
 else none)
noncomputable def run (d : Ds (List.map PM.ty ps)) : Option (Ds (muts ps ++ List.map PM.ty rs)) := match d with
  | ((e0_0, e0_1, e0_2, e0_3, e0_4, e0_5, e0_6, e0_7, e0_8, _), shard1, _) => run' e0_0 e0_1 e0_2 e0_3 e0_4 e0_5 e0_6 e0_7 e0_8 shard1
theorem run_is : ∀ d, runF env 17 code [] ps rs d = run d := fun d => by kernel_rfl
theorem loops : LoopsOk env code := loopsOk_of (l := []) (by kernel_rfl) (fun p hp => by
  cases hp)
noncomputable def pre (e0_0 : (Option (List Int))) (e0_1 : (List Int)) (e0_2 : (List Int)) (e0_3 : (List Int)) (e0_4 : Int) (e0_5 : Bool) (e0_6 : Int) (e0_7 : Int) (e0_8 : (List Int)) (shard1 : Int) : Bool := (run' e0_0 e0_1 e0_2 e0_3 e0_4 e0_5 e0_6 e0_7 e0_8 shard1).isSome
noncomputable def fn (e0_0 : (Option (List Int))) (e0_1 : (List Int)) (e0_2 : (List Int)) (e0_3 : (List Int)) (e0_4 : Int) (e0_5 : Bool) (e0_6 : Int) (e0_7 : Int) (e0_8 : (List Int)) (shard1 : Int) : D := match run' e0_0 e0_1 e0_2 e0_3 e0_4 e0_5 e0_6 e0_7 e0_8 shard1 with
  | some x => x
  | none => default
noncomputable def sig : Sig := ⟨ps, rs, fun d => match d with
  | ((e0_0, e0_1, e0_2, e0_3, e0_4, e0_5, e0_6, e0_7, e0_8, _), shard1, _) => pre e0_0 e0_1 e0_2 e0_3 e0_4 e0_5 e0_6 e0_7 e0_8 shard1, fun d => match d with
  | ((e0_0, e0_1, e0_2, e0_3, e0_4, e0_5, e0_6, e0_7, e0_8, _), shard1, _) => fn e0_0 e0_1 e0_2 e0_3 e0_4 e0_5 e0_6 e0_7 e0_8 shard1, false⟩
theorem run_fn (e0_0 : (Option (List Int))) (e0_1 : (List Int)) (e0_2 : (List Int)) (e0_3 : (List Int)) (e0_4 : Int) (e0_5 : Bool) (e0_6 : Int) (e0_7 : Int) (e0_8 : (List Int)) (shard1 : Int) (h : pre e0_0 e0_1 e0_2 e0_3 e0_4 e0_5 e0_6 e0_7 e0_8 shard1 = true) : run' e0_0 e0_1 e0_2 e0_3 e0_4 e0_5 e0_6 e0_7 e0_8 shard1 = some (fn e0_0 e0_1 e0_2 e0_3 e0_4 e0_5 e0_6 e0_7 e0_8 shard1) := by
  unfold pre at h
  unfold fn
  cases e : run' e0_0 e0_1 e0_2 e0_3 e0_4 e0_5 e0_6 e0_7 e0_8 shard1 with
  | some x => rfl
  | none => rw [e] at h; cases h
theorem is_fn (e0_0 : (Option (List Int))) (e0_1 : (List Int)) (e0_2 : (List Int)) (e0_3 : (List Int)) (e0_4 : Int) (e0_5 : Bool) (e0_6 : Int) (e0_7 : Int) (e0_8 : (List Int)) (shard1 : Int) {x : D} (h : run' e0_0 e0_1 e0_2 e0_3 e0_4 e0_5 e0_6 e0_7 e0_8 shard1 = some x) : pre e0_0 e0_1 e0_2 e0_3 e0_4 e0_5 e0_6 e0_7 e0_8 shard1 = true ∧ fn e0_0 e0_1 e0_2 e0_3 e0_4 e0_5 e0_6 e0_7 e0_8 shard1 = x := by
  unfold pre fn
  rw [h]
  exact ⟨rfl, rfl⟩
theorem sound {ρ : Obs} (hE : EnvOk Go.Proofs.Tryd.prog ρ env) : Sound Go.Proofs.Tryd.prog ρ 55 sig := sound_of (fn := Go.Proofs.Tryd.f55) (c := code) (res := []) hE (by kernel_rfl) (by kernel_rfl) (by kernel_rfl) (by kernel_rfl) (by kernel_rfl) loops rfl (show 2 ≤ 17 by decide) (fun d hd => (run_is d).trans (by
  obtain ⟨⟨e0_0, e0_1, e0_2, e0_3, e0_4, e0_5, e0_6, e0_7, e0_8, _⟩, shard1, _⟩ := d
  exact run_fn e0_0 e0_1 e0_2 e0_3 e0_4 e0_5 e0_6 e0_7 e0_8 shard1 hd))
theorem enters : Enters Go.Proofs.Tryd.prog 55 := enters_of (fn := Go.Proofs.Tryd.f55) (by kernel_rfl) (by kernel_rfl) (by kernel_rfl)
theorem ok {ρ : Obs} (h : ∀ p ∈ ([] : List (FuncId × Sig)), Enters Go.Proofs.Tryd.prog p.1 ∧ Sound Go.Proofs.Tryd.prog ρ p.1 p.2) : Enters Go.Proofs.Tryd.prog 55 ∧ Sound Go.Proofs.Tryd.prog ρ 55 sig := ⟨enters, sound (envOk_ofF tabDOk h)⟩
theorem okR : Enters Go.Proofs.Tryd.prog 55 ∧ Sound Go.Proofs.Tryd.prog rho 55 sig := ok (fun p hp => by
  cases hp)
end mark
namespace leastE
abbrev ps : List PM := [.bx 93 [.v (.ptr Ly), .r 3 I64 false, .r 3 I64 false, .r 97 U64 false, .v I64, .v .bool, .v I64, .v I64, .r 3 I64 true], .val I64]
abbrev rs : List PM := [.val I64]
noncomputable abbrev code : Code := (Go.Proofs.Tryd.f57.body.getD .skip)
abbrev s2 : Shape := ⟨[.box 0 0, .v I64, .un, .un, .un, .v I64, .un, .un, .un, .un, .un, .un, .un, .un, .un, .un, .un, .un, .un, .un, .un, .un, .un, .un, .un, .un, .un, .un, .un, .un, .un, .un, .un, .un, .un, .un, .un, .un, .un, .un, .un], [.cells (93 : Go.TypeId) [.v (.ptr (.one (.list I64))), .row 1, .row 2, .row 3, .v I64, .v .bool, .v I64, .v I64, .row 4], .row (3 : Go.TypeId) I64, .row (3 : Go.TypeId) I64, .row (97 : Go.TypeId) (.int .u64), .row (3 : Go.TypeId) I64]⟩
abbrev x2 : List Way := [⟨.rt, ⟨[(4, none)]⟩, ⟨[.un, .un, .un, .un, .v I64, .un, .un, .un, .un, .un, .un, .un, .un, .un, .un, .un, .un, .un, .un, .un, .un, .un, .un, .un, .un, .un, .un, .un, .un, .un, .un, .un, .un, .un, .un, .un, .un, .un, .un, .un, .un], [.cells (93 : Go.TypeId) [.v (.ptr (.one (.list I64))), .row 1, .row 2, .row 3, .v I64, .v .bool, .v I64, .v I64, .row 4], .row (3 : Go.TypeId) I64, .row (3 : Go.TypeId) I64, .row (97 : Go.TypeId) (.int .u64), .row (3 : Go.TypeId) I64]⟩⟩, ⟨(.ex 0), ⟨[]⟩, ⟨[.un, .un, .un, .un, .un, .un, .un, .un, .un, .un, .un, .un, .un, .un, .un, .un, .un, .un, .un, .un, .un, .un, .un, .un, .un, .un, .un, .un, .un, .un, .un, .un, .un, .un, .un, .un, .un, .un, .un, .un, .un], [.cells (93 : Go.TypeId) [.v (.ptr (.one (.list I64))), .row 1, .row 2, .row 3, .v I64, .v .bool, .v I64, .v I64, .row 4], .row (3 : Go.TypeId) I64, .row (3 : Go.TypeId) I64, .row (97 : Go.TypeId) (.int .u64), .row (3 : Go.TypeId) I64]⟩⟩]
abbrev V2 : Type := (Int × Int × Unit) × (((Option (List Int)) × Int × Bool × Int × Int × Unit) × (List Int) × (List Int) × (List Int) × (List Int) × Unit)
abbrev X2 : Type := ((Int × Unit) × (((Option (List Int)) × Int × Bool × Int × Int × Unit) × (List Int) × (List Int) × (List Int) × (List Int) × Unit)) ⊕ ((Unit) × (((Option (List Int)) × Int × Bool × Int × Int × Unit) × (List Int) × (List Int) × (List Int) × (List Int) × Unit))
noncomputable def R2 {R : Type} (from1 : Int) (i5 : Int) (c0x0 : (Option (List Int))) (c0x4 : Int) (c0x5 : Bool) (c0x6 : Int) (c0x7 : Int) (r1 : List Int) (r2 : List Int) (r3 : List Int) (r4 : List Int) (k : V2 → Option R) (kx : X2 → Option R) : Option R := (if Decidable.decide (i5 < (↑(List.length r3) : Int)) = Bool.true then (if (0 : Int) ≤ i5 then (if i5 < (↑(List.length r3) : Int) then (if (i5 == IntKind.wrap .i64 (Int.tdiv from1 (64 : Int))) = Bool.true then (if (0 : Int) ≤ Int.tmod from1 (64 : Int) then (if (bitsZ Go.BinOp.and Go.IntKind.u64 (List.getD r3 (Int.toNat i5) (0 : Int)) (Go.IntKind.wrap Go.IntKind.u64 ((18446744073709551615 : Int) * (2 : Int) ^ Min.min (Int.toNat (Int.tmod from1 (64 : Int))) (64 : Nat))) != (0 : Int)) = Bool.true then (if Tz.pre (bitsZ Go.BinOp.and Go.IntKind.u64 (List.getD r3 (Int.toNat i5) (0 : Int)) (Go.IntKind.wrap Go.IntKind.u64 ((18446744073709551615 : Int) * (2 : Int) ^ Min.min (Int.toNat (Int.tmod from1 (64 : Int))) (64 : Nat)))) = Bool.true then kx (Sum.inl <| ((IntKind.wrap .i64 (IntKind.wrap .i64 ((64 : Int) * i5) + (Tz.fn (bitsZ Go.BinOp.and Go.IntKind.u64 (List.getD r3 (Int.toNat i5) (0 : Int)) (Go.IntKind.wrap Go.IntKind.u64 ((18446744073709551615 : Int) * (2 : Int) ^ Min.min (Int.toNat (Int.tmod from1 (64 : Int))) (64 : Nat))))).1), ()), ((c0x0, c0x4, c0x5, c0x6, c0x7, ()), r1, r2, r3, r4, ())))
 else none)
 else k ((from1, IntKind.wrap .i64 (i5 + (1 : Int)), ()), ((c0x0, c0x4, c0x5, c0x6, c0x7, ()), r1, r2, r3, r4, ())))
 else none)
 else (if (List.getD r3 (Int.toNat i5) (0 : Int) != (0 : Int)) = Bool.true then (if Tz.pre (List.getD r3 (Int.toNat i5) (0 : Int)) = Bool.true then kx (Sum.inl <| ((IntKind.wrap .i64 (IntKind.wrap .i64 ((64 : Int) * i5) + (Tz.fn (List.getD r3 (Int.toNat i5) (0 : Int))).1), ()), ((c0x0, c0x4, c0x5, c0x6, c0x7, ()), r1, r2, r3, r4, ())))
 else none)
 else k ((from1, IntKind.wrap .i64 (i5 + (1 : Int)), ()), ((c0x0, c0x4, c0x5, c0x6, c0x7, ()), r1, r2, r3, r4, ()))))
 else none)
 else none)
 else kx (Sum.inr <| ((()), ((c0x0, c0x4, c0x5, c0x6, c0x7, ()), r1, r2, r3, r4, ()))))
noncomputable def rd2 : Rd (VO s2) (Xs x2) := fun v k kx => match v with
  | ((from1, i5, _), ((c0x0, c0x4, c0x5, c0x6, c0x7, _), r1, r2, r3, r4, _)) => R2 from1 i5 c0x0 c0x4 c0x5 c0x6 c0x7 r1 r2 r3 r4 k kx
noncomputable def F2 (from1 : Int) (i5 : Int) (c0x0 : (Option (List Int))) (c0x4 : Int) (c0x5 : Bool) (c0x6 : Int) (c0x7 : Int) (r1 : List Int) (r2 : List Int) (r3 : List Int) (r4 : List Int) : Option X2 := finOf rd2 ((from1, i5, ()), ((c0x0, c0x4, c0x5, c0x6, c0x7, ()), r1, r2, r3, r4, ()))
theorem F2_inv {from1 : Int} {c0x0 : (Option (List Int))} {c0x4 : Int} {c0x5 : Bool} {c0x6 : Int} {c0x7 : Int} {r1 : List Int} {r2 : List Int} {r3 : List Int} {r4 : List Int} (I : Int → Prop) (μ : Int → Nat) (Q : X2 → Prop) (h : ∀ (i5 : Int), I i5 → Led (fun (R : Type) (k : V2 → Option R) (kx : X2 → Option R) => R2 from1 i5 c0x0 c0x4 c0x5 c0x6 c0x7 r1 r2 r3 r4 k kx) (fun v => ∃ (i5' : Int), v = ((from1, i5', ()), ((c0x0, c0x4, c0x5, c0x6, c0x7, ()), r1, r2, r3, r4, ())) ∧ I i5' ∧ μ i5' < μ i5) Q) : ∀ (i5 : Int), I i5 → ∃ z, F2 from1 i5 c0x0 c0x4 c0x5 c0x6 c0x7 r1 r2 r3 r4 = some z ∧ Q z := fun i5 hi => by
  refine finOf_inv (V := V2) (X := X2) (rd := rd2) (fun v => ∃ (i5' : Int), v = ((from1, i5', ()), ((c0x0, c0x4, c0x5, c0x6, c0x7, ()), r1, r2, r3, r4, ())) ∧ I i5') (fun v => match v with
    | ((from1, i5, _), ((c0x0, c0x4, c0x5, c0x6, c0x7, _), r1, r2, r3, r4, _)) => μ i5) Q (fun v hv => ?_) ((from1, i5, ()), ((c0x0, c0x4, c0x5, c0x6, c0x7, ()), r1, r2, r3, r4, ())) ⟨i5, rfl, hi⟩
  obtain ⟨i5, rfl, hi⟩ := hv
  refine led_mono (h i5 hi) ?_ (fun _ q => q)
  rintro v ⟨i5', rfl, h1, h2⟩
  exact ⟨⟨i5', rfl, h1⟩, h2⟩
noncomputable def L2 : Lp := ⟨2, ⟨[(0, none), (1, none), (5, none)]⟩, s2, x2, fun v => match v with
  | ((from1, i5, _), ((c0x0, c0x4, c0x5, c0x6, c0x7, _), r1, r2, r3, r4, _)) => F2 from1 i5 c0x0 c0x4 c0x5 c0x6 c0x7 r1 r2 r3 r4⟩
theorem ends2 : Ends L2 rd2 := ends_fin (fun v => by
  obtain ⟨⟨from1, i5, _⟩, ⟨⟨c0x0, c0x4, c0x5, c0x6, c0x7, _⟩, r1, r2, r3, r4, _⟩⟩ := v
  rfl)
noncomputable def env : Env := mkEnvF tabD [(71, Tz.sig)] 5 (fixL ps) [] [L2]
theorem round2 : RoundIs env (sub [true, false, true, false, false] code) L2 rd2 := fun R v k kx => by kernel_rfl
abbrev D : Type := (((Option (List Int)) × ((List Int) × ((List Int) × ((List Int) × (Int × (Bool × (Int × (Int × ((List Int) × Bool))))))))) × Int × Unit)
noncomputable def run' (e0_0 : (Option (List Int))) (e0_1 : (List Int)) (e0_2 : (List Int)) (e0_3 : (List Int)) (e0_4 : Int) (e0_5 : Bool) (e0_6 : Int) (e0_7 : Int) (e0_8 : (List Int)) (from1 : Int) : Option D := (match F2 (from1) (IntKind.wrap .i64 (Int.tdiv from1 (64 : Int))) (e0_0) (e0_4) (e0_5) (e0_6) (e0_7) (e0_1) (e0_2) (e0_3) (e0_8) with
  | some (Sum.inl <| ((t4_1, _), ((c0x0_1, c0x4_1, c0x5_1, c0x6_1, c0x7_1, _), r1_1, r2_1, r3_1, r4_1, _))) => some ((c0x0_1, r1_1, r2_1, r3_1, c0x4_1, c0x5_1, c0x6_1, c0x7_1, r4_1, Bool.false), t4_1, ())
  | some (Sum.inr <| (_, ((c0x0_2, c0x4_2, c0x5_2, c0x6_2, c0x7_2, _), r1_2, r2_2, r3_2, r4_2, _))) => some ((c0x0_2, r1_2, r2_2, r3_2, c0x4_2, c0x5_2, c0x6_2, c0x7_2, r4_2, Bool.false), (-1 : Int), ())
  | none => none)
noncomputable def run (d : Ds (List.map PM.ty ps)) : Option (Ds (muts ps ++ List.map PM.ty rs)) := match d with
  | ((e0_0, e0_1, e0_2, e0_3, e0_4, e0_5, e0_6, e0_7, e0_8, _), from1, _) => run' e0_0 e0_1 e0_2 e0_3 e0_4 e0_5 e0_6 e0_7 e0_8 from1
theorem run_is : ∀ d, runF env 41 code [4] ps rs d = run d := fun d => by kernel_rfl
theorem loops : LoopsOk env code := loopsOk_of (l := [[true, false, true, false, false]]) (by kernel_rfl) (fun p hp => by
  simp only [List.mem_cons, List.not_mem_nil, or_false] at hp
  rcases hp with rfl
  · exact loopOk_lpF (L := L2) (x := sub [true, false, true, false, false] code) (by kernel_rfl) (by simp [L2]) round2 ends2
  )
noncomputable def pre (e0_0 : (Option (List Int))) (e0_1 : (List Int)) (e0_2 : (List Int)) (e0_3 : (List Int)) (e0_4 : Int) (e0_5 : Bool) (e0_6 : Int) (e0_7 : Int) (e0_8 : (List Int)) (from1 : Int) : Bool := (run' e0_0 e0_1 e0_2 e0_3 e0_4 e0_5 e0_6 e0_7 e0_8 from1).isSome
noncomputable def fn (e0_0 : (Option (List Int))) (e0_1 : (List Int)) (e0_2 : (List Int)) (e0_3 : (List Int)) (e0_4 : Int) (e0_5 : Bool) (e0_6 : Int) (e0_7 : Int) (e0_8 : (List Int)) (from1 : Int) : D := match run' e0_0 e0_1 e0_2 e0_3 e0_4 e0_5 e0_6 e0_7 e0_8 from1 with
  | some x => x
  | none => default
noncomputable def sig : Sig := ⟨ps, rs, fun d => match d with
  | ((e0_0, e0_1, e0_2, e0_3, e0_4, e0_5, e0_6, e0_7, e0_8, _), from1, _) => pre e0_0 e0_1 e0_2 e0_3 e0_4 e0_5 e0_6 e0_7 e0_8 from1, fun d => match d with
  | ((e0_0, e0_1, e0_2, e0_3, e0_4, e0_5, e0_6, e0_7, e0_8, _), from1, _) => fn e0_0 e0_1 e0_2 e0_3 e0_4 e0_5 e0_6 e0_7 e0_8 from1, false⟩
theorem run_fn (e0_0 : (Option (List Int))) (e0_1 : (List Int)) (e0_2 : (List Int)) (e0_3 : (List Int)) (e0_4 : Int) (e0_5 : Bool) (e0_6 : Int) (e0_7 : Int) (e0_8 : (List Int)) (from1 : Int) (h : pre e0_0 e0_1 e0_2 e0_3 e0_4 e0_5 e0_6 e0_7 e0_8 from1 = true) : run' e0_0 e0_1 e0_2 e0_3 e0_4 e0_5 e0_6 e0_7 e0_8 from1 = some (fn e0_0 e0_1 e0_2 e0_3 e0_4 e0_5 e0_6 e0_7 e0_8 from1) := by
  unfold pre at h
  unfold fn
  cases e : run' e0_0 e0_1 e0_2 e0_3 e0_4 e0_5 e0_6 e0_7 e0_8 from1 with
  | some x => rfl
  | none => rw [e] at h; cases h
theorem is_fn (e0_0 : (Option (List Int))) (e0_1 : (List Int)) (e0_2 : (List Int)) (e0_3 : (List Int)) (e0_4 : Int) (e0_5 : Bool) (e0_6 : Int) (e0_7 : Int) (e0_8 : (List Int)) (from1 : Int) {x : D} (h : run' e0_0 e0_1 e0_2 e0_3 e0_4 e0_5 e0_6 e0_7 e0_8 from1 = some x) : pre e0_0 e0_1 e0_2 e0_3 e0_4 e0_5 e0_6 e0_7 e0_8 from1 = true ∧ fn e0_0 e0_1 e0_2 e0_3 e0_4 e0_5 e0_6 e0_7 e0_8 from1 = x := by
  unfold pre fn
  rw [h]
  exact ⟨rfl, rfl⟩
theorem sound {ρ : Obs} (hE : EnvOk Go.Proofs.Tryd.prog ρ env) : Sound Go.Proofs.Tryd.prog ρ 57 sig := sound_of (fn := Go.Proofs.Tryd.f57) (c := code) (res := [4]) hE (by kernel_rfl) (by kernel_rfl) (by kernel_rfl) (by kernel_rfl) (by kernel_rfl) loops rfl (show 2 ≤ 41 by decide) (fun d hd => (run_is d).trans (by
  obtain ⟨⟨e0_0, e0_1, e0_2, e0_3, e0_4, e0_5, e0_6, e0_7, e0_8, _⟩, from1, _⟩ := d
  exact run_fn e0_0 e0_1 e0_2 e0_3 e0_4 e0_5 e0_6 e0_7 e0_8 from1 hd))
theorem enters : Enters Go.Proofs.Tryd.prog 57 := enters_of (fn := Go.Proofs.Tryd.f57) (by kernel_rfl) (by kernel_rfl) (by kernel_rfl)
theorem ok {ρ : Obs} (h : ∀ p ∈ ([(71, Tz.sig)] : List (FuncId × Sig)), Enters Go.Proofs.Tryd.prog p.1 ∧ Sound Go.Proofs.Tryd.prog ρ p.1 p.2) : Enters Go.Proofs.Tryd.prog 57 ∧ Sound Go.Proofs.Tryd.prog ρ 57 sig := ⟨enters, sound (envOk_ofF tabDOk h)⟩
theorem okR : Enters Go.Proofs.Tryd.prog 57 ∧ Sound Go.Proofs.Tryd.prog rho 57 sig := ok (fun p hp => by
  simp only [List.mem_cons, List.not_mem_nil, or_false] at hp
  rcases hp with rfl
  · exact Tz.okR)
end leastE
namespace NextE
abbrev ps : List PM := [.bx 93 [.v (.ptr Ly), .r 3 I64 false, .r 3 I64 false, .r 97 U64 false, .v I64, .v .bool, .v I64, .v I64, .r 3 I64 true]]
abbrev rs : List PM := [.val I64]
noncomputable abbrev code : Code := (Go.Proofs.Tryd.f23.body.getD .skip)
noncomputable def env : Env := mkEnvF tabD [(57, leastE.sig)] 5 (fixL ps) [] []
abbrev D : Type := (((Option (List Int)) × ((List Int) × ((List Int) × ((List Int) × (Int × (Bool × (Int × (Int × ((List Int) × Bool))))))))) × Int × Unit)
noncomputable def run' (e0_0 : (Option (List Int))) (e0_1 : (List Int)) (e0_2 : (List Int)) (e0_3 : (List Int)) (e0_4 : Int) (e0_5 : Bool) (e0_6 : Int) (e0_7 : Int) (e0_8 : (List Int)) : Option D := (if (!e0_5) = Bool.true then (if leastE.pre e0_0 e0_1 e0_2 e0_3 e0_4 e0_5 e0_6 e0_7 e0_8 (0 : Int) = Bool.true then (letZ (leastE.fn e0_0 e0_1 e0_2 e0_3 e0_4 e0_5 e0_6 e0_7 e0_8 (0 : Int)) fun z_ =>
 (if Decidable.decide (z_.2.1 < (0 : Int)) = Bool.true then some ((z_.1.1, z_.1.2.1, z_.1.2.2.1, z_.1.2.2.2.1, z_.1.2.2.2.2.1, z_.1.2.2.2.2.2.1, z_.1.2.2.2.2.2.2.1, z_.1.2.2.2.2.2.2.2.1, z_.1.2.2.2.2.2.2.2.2.1, Bool.false), (-1 : Int), ())
 else (if leastE.pre z_.1.1 z_.1.2.1 z_.1.2.2.1 z_.1.2.2.2.1 z_.1.2.2.2.2.1 Bool.true (0 : Int) z_.1.2.2.2.2.2.2.2.1 z_.1.2.2.2.2.2.2.2.2.1 (0 : Int) = Bool.true then (letZ (leastE.fn z_.1.1 z_.1.2.1 z_.1.2.2.1 z_.1.2.2.2.1 z_.1.2.2.2.2.1 Bool.true (0 : Int) z_.1.2.2.2.2.2.2.2.1 z_.1.2.2.2.2.2.2.2.2.1 (0 : Int)) fun z__1 =>
 (if Decidable.decide (z__1.2.1 < (0 : Int)) = Bool.true then some ((z__1.1.1, z__1.1.2.1, z__1.1.2.2.1, z__1.1.2.2.2.1, IntKind.wrap .i64 (z__1.1.2.2.2.2.1 + (1 : Int)), Bool.false, z__1.1.2.2.2.2.2.2.1, z__1.2.1, z__1.1.2.2.2.2.2.2.2.2.1, Bool.false), z__1.2.1, ())
 else some ((z__1.1.1, z__1.1.2.1, z__1.1.2.2.1, z__1.1.2.2.2.1, z__1.1.2.2.2.2.1, z__1.1.2.2.2.2.2.1, z__1.1.2.2.2.2.2.2.1, z__1.2.1, z__1.1.2.2.2.2.2.2.2.2.1, Bool.false), z__1.2.1, ())))
 else none)))
 else none)
 else (if leastE.pre e0_0 e0_1 e0_2 e0_3 e0_4 e0_5 e0_6 e0_7 e0_8 e0_6 = Bool.true then (letZ (leastE.fn e0_0 e0_1 e0_2 e0_3 e0_4 e0_5 e0_6 e0_7 e0_8 e0_6) fun z__2 =>
 (if Decidable.decide (z__2.2.1 < (0 : Int)) = Bool.true then some ((z__2.1.1, z__2.1.2.1, z__2.1.2.2.1, z__2.1.2.2.2.1, IntKind.wrap .i64 (z__2.1.2.2.2.2.1 + (1 : Int)), Bool.false, z__2.1.2.2.2.2.2.2.1, z__2.2.1, z__2.1.2.2.2.2.2.2.2.2.1, Bool.false), z__2.2.1, ())
 else some ((z__2.1.1, z__2.1.2.1, z__2.1.2.2.1, z__2.1.2.2.2.1, z__2.1.2.2.2.2.1, z__2.1.2.2.2.2.2.1, z__2.1.2.2.2.2.2.2.1, z__2.2.1, z__2.1.2.2.2.2.2.2.2.2.1, Bool.false), z__2.2.1, ())))
 else none))
noncomputable def run (d : Ds (List.map PM.ty ps)) : Option (Ds (muts ps ++ List.map PM.ty rs)) := match d with
  | ((e0_0, e0_1, e0_2, e0_3, e0_4, e0_5, e0_6, e0_7, e0_8, _), _) => run' e0_0 e0_1 e0_2 e0_3 e0_4 e0_5 e0_6 e0_7 e0_8
theorem run_is : ∀ d, runF env 45 code [2] ps rs d = run d := fun d => by kernel_rfl
theorem loops : LoopsOk env code := loopsOk_of (l := []) (by kernel_rfl) (fun p hp => by
  cases hp)
noncomputable def pre (e0_0 : (Option (List Int))) (e0_1 : (List Int)) (e0_2 : (List Int)) (e0_3 : (List Int)) (e0_4 : Int) (e0_5 : Bool) (e0_6 : Int) (e0_7 : Int) (e0_8 : (List Int)) : Bool := (run' e0_0 e0_1 e0_2 e0_3 e0_4 e0_5 e0_6 e0_7 e0_8).isSome
noncomputable def fn (e0_0 : (Option (List Int))) (e0_1 : (List Int)) (e0_2 : (List Int)) (e0_3 : (List Int)) (e0_4 : Int) (e0_5 : Bool) (e0_6 : Int) (e0_7 : Int) (e0_8 : (List Int)) : D := match run' e0_0 e0_1 e0_2 e0_3 e0_4 e0_5 e0_6 e0_7 e0_8 with
  | some x => x
  | none => default
noncomputable def sig : Sig := ⟨ps, rs, fun d => match d with
  | ((e0_0, e0_1, e0_2, e0_3, e0_4, e0_5, e0_6, e0_7, e0_8, _), _) => pre e0_0 e0_1 e0_2 e0_3 e0_4 e0_5 e0_6 e0_7 e0_8, fun d => match d with
  | ((e0_0, e0_1, e0_2, e0_3, e0_4, e0_5, e0_6, e0_7, e0_8, _), _) => fn e0_0 e0_1 e0_2 e0_3 e0_4 e0_5 e0_6 e0_7 e0_8, false⟩
theorem run_fn (e0_0 : (Option (List Int))) (e0_1 : (List Int)) (e0_2 : (List Int)) (e0_3 : (List Int)) (e0_4 : Int) (e0_5 : Bool) (e0_6 : Int) (e0_7 : Int) (e0_8 : (List Int)) (h : pre e0_0 e0_1 e0_2 e0_3 e0_4 e0_5 e0_6 e0_7 e0_8 = true) : run' e0_0 e0_1 e0_2 e0_3 e0_4 e0_5 e0_6 e0_7 e0_8 = some (fn e0_0 e0_1 e0_2 e0_3 e0_4 e0_5 e0_6 e0_7 e0_8) := by
  unfold pre at h
  unfold fn
  cases e : run' e0_0 e0_1 e0_2 e0_3 e0_4 e0_5 e0_6 e0_7 e0_8 with
  | some x => rfl
  | none => rw [e] at h; cases h
theorem is_fn (e0_0 : (Option (List Int))) (e0_1 : (List Int)) (e0_2 : (List Int)) (e0_3 : (List Int)) (e0_4 : Int) (e0_5 : Bool) (e0_6 : Int) (e0_7 : Int) (e0_8 : (List Int)) {x : D} (h : run' e0_0 e0_1 e0_2 e0_3 e0_4 e0_5 e0_6 e0_7 e0_8 = some x) : pre e0_0 e0_1 e0_2 e0_3 e0_4 e0_5 e0_6 e0_7 e0_8 = true ∧ fn e0_0 e0_1 e0_2 e0_3 e0_4 e0_5 e0_6 e0_7 e0_8 = x := by
  unfold pre fn
  rw [h]
  exact ⟨rfl, rfl⟩
theorem sound {ρ : Obs} (hE : EnvOk Go.Proofs.Tryd.prog ρ env) : Sound Go.Proofs.Tryd.prog ρ 23 sig := sound_of (fn := Go.Proofs.Tryd.f23) (c := code) (res := [2]) hE (by kernel_rfl) (by kernel_rfl) (by kernel_rfl) (by kernel_rfl) (by kernel_rfl) loops rfl (show 1 ≤ 45 by decide) (fun d hd => (run_is d).trans (by
  obtain ⟨⟨e0_0, e0_1, e0_2, e0_3, e0_4, e0_5, e0_6, e0_7, e0_8, _⟩, _⟩ := d
  exact run_fn e0_0 e0_1 e0_2 e0_3 e0_4 e0_5 e0_6 e0_7 e0_8 hd))
theorem enters : Enters Go.Proofs.Tryd.prog 23 := enters_of (fn := Go.Proofs.Tryd.f23) (by kernel_rfl) (by kernel_rfl) (by kernel_rfl)
theorem ok {ρ : Obs} (h : ∀ p ∈ ([(57, leastE.sig)] : List (FuncId × Sig)), Enters Go.Proofs.Tryd.prog p.1 ∧ Sound Go.Proofs.Tryd.prog ρ p.1 p.2) : Enters Go.Proofs.Tryd.prog 23 ∧ Sound Go.Proofs.Tryd.prog ρ 23 sig := ⟨enters, sound (envOk_ofF tabDOk h)⟩
theorem okR : Enters Go.Proofs.Tryd.prog 23 ∧ Sound Go.Proofs.Tryd.prog rho 23 sig := ok (fun p hp => by
  simp only [List.mem_cons, List.not_mem_nil, or_false] at hp
  rcases hp with rfl
  · exact leastE.okR)
end NextE
namespace DoneE
abbrev ps : List PM := [.bx 93 [.v (.ptr Ly), .r 3 I64 false, .r 3 I64 false, .r 97 U64 false, .v I64, .v .bool, .v I64, .v I64, .r 3 I64 true]]
abbrev rs : List PM := [.val .bool]
noncomputable abbrev code : Code := (Go.Proofs.Tryd.f18.body.getD .skip)
noncomputable def env : Env := mkEnvF tabD [(57, leastE.sig)] 5 (fixL ps) [] []
abbrev D : Type := (((Option (List Int)) × ((List Int) × ((List Int) × ((List Int) × (Int × (Bool × (Int × (Int × ((List Int) × Bool))))))))) × Bool × Unit)
noncomputable def run' (e0_0 : (Option (List Int))) (e0_1 : (List Int)) (e0_2 : (List Int)) (e0_3 : (List Int)) (e0_4 : Int) (e0_5 : Bool) (e0_6 : Int) (e0_7 : Int) (e0_8 : (List Int)) : Option D := (if (!e0_5) = Bool.true then (if leastE.pre e0_0 e0_1 e0_2 e0_3 e0_4 e0_5 e0_6 e0_7 e0_8 (0 : Int) = Bool.true then (letZ (leastE.fn e0_0 e0_1 e0_2 e0_3 e0_4 e0_5 e0_6 e0_7 e0_8 (0 : Int)) fun z_ =>
 some ((z_.1.1, z_.1.2.1, z_.1.2.2.1, z_.1.2.2.2.1, z_.1.2.2.2.2.1, z_.1.2.2.2.2.2.1, z_.1.2.2.2.2.2.2.1, z_.1.2.2.2.2.2.2.2.1, z_.1.2.2.2.2.2.2.2.2.1, Bool.false), Decidable.decide (z_.2.1 < (0 : Int)), ()))
 else none)
 else some ((e0_0, e0_1, e0_2, e0_3, e0_4, e0_5, e0_6, e0_7, e0_8, Bool.false), Bool.false, ()))
noncomputable def run (d : Ds (List.map PM.ty ps)) : Option (Ds (muts ps ++ List.map PM.ty rs)) := match d with
  | ((e0_0, e0_1, e0_2, e0_3, e0_4, e0_5, e0_6, e0_7, e0_8, _), _) => run' e0_0 e0_1 e0_2 e0_3 e0_4 e0_5 e0_6 e0_7 e0_8
theorem run_is : ∀ d, runF env 13 code [2] ps rs d = run d := fun d => by kernel_rfl
theorem loops : LoopsOk env code := loopsOk_of (l := []) (by kernel_rfl) (fun p hp => by
  cases hp)
noncomputable def pre (e0_0 : (Option (List Int))) (e0_1 : (List Int)) (e0_2 : (List Int)) (e0_3 : (List Int)) (e0_4 : Int) (e0_5 : Bool) (e0_6 : Int) (e0_7 : Int) (e0_8 : (List Int)) : Bool := (run' e0_0 e0_1 e0_2 e0_3 e0_4 e0_5 e0_6 e0_7 e0_8).isSome
noncomputable def fn (e0_0 : (Option (List Int))) (e0_1 : (List Int)) (e0_2 : (List Int)) (e0_3 : (List Int)) (e0_4 : Int) (e0_5 : Bool) (e0_6 : Int) (e0_7 : Int) (e0_8 : (List Int)) : D := match run' e0_0 e0_1 e0_2 e0_3 e0_4 e0_5 e0_6 e0_7 e0_8 with
  | some x => x
  | none => default
noncomputable def sig : Sig := ⟨ps, rs, fun d => match d with
  | ((e0_0, e0_1, e0_2, e0_3, e0_4, e0_5, e0_6, e0_7, e0_8, _), _) => pre e0_0 e0_1 e0_2 e0_3 e0_4 e0_5 e0_6 e0_7 e0_8, fun d => match d with
  | ((e0_0, e0_1, e0_2, e0_3, e0_4, e0_5, e0_6, e0_7, e0_8, _), _) => fn e0_0 e0_1 e0_2 e0_3 e0_4 e0_5 e0_6 e0_7 e0_8, false⟩
theorem run_fn (e0_0 : (Option (List Int))) (e0_1 : (List Int)) (e0_2 : (List Int)) (e0_3 : (List Int)) (e0_4 : Int) (e0_5 : Bool) (e0_6 : Int) (e0_7 : Int) (e0_8 : (List Int)) (h : pre e0_0 e0_1 e0_2 e0_3 e0_4 e0_5 e0_6 e0_7 e0_8 = true) : run' e0_0 e0_1 e0_2 e0_3 e0_4 e0_5 e0_6 e0_7 e0_8 = some (fn e0_0 e0_1 e0_2 e0_3 e0_4 e0_5 e0_6 e0_7 e0_8) := by
  unfold pre at h
  unfold fn
  cases e : run' e0_0 e0_1 e0_2 e0_3 e0_4 e0_5 e0_6 e0_7 e0_8 with
  | some x => rfl
  | none => rw [e] at h; cases h
theorem is_fn (e0_0 : (Option (List Int))) (e0_1 : (List Int)) (e0_2 : (List Int)) (e0_3 : (List Int)) (e0_4 : Int) (e0_5 : Bool) (e0_6 : Int) (e0_7 : Int) (e0_8 : (List Int)) {x : D} (h : run' e0_0 e0_1 e0_2 e0_3 e0_4 e0_5 e0_6 e0_7 e0_8 = some x) : pre e0_0 e0_1 e0_2 e0_3 e0_4 e0_5 e0_6 e0_7 e0_8 = true ∧ fn e0_0 e0_1 e0_2 e0_3 e0_4 e0_5 e0_6 e0_7 e0_8 = x := by
  unfold pre fn
  rw [h]
  exact ⟨rfl, rfl⟩
theorem sound {ρ : Obs} (hE : EnvOk Go.Proofs.Tryd.prog ρ env) : Sound Go.Proofs.Tryd.prog ρ 18 sig := sound_of (fn := Go.Proofs.Tryd.f18) (c := code) (res := [2]) hE (by kernel_rfl) (by kernel_rfl) (by kernel_rfl) (by kernel_rfl) (by kernel_rfl) loops rfl (show 1 ≤ 13 by decide) (fun d hd => (run_is d).trans (by
  obtain ⟨⟨e0_0, e0_1, e0_2, e0_3, e0_4, e0_5, e0_6, e0_7, e0_8, _⟩, _⟩ := d
  exact run_fn e0_0 e0_1 e0_2 e0_3 e0_4 e0_5 e0_6 e0_7 e0_8 hd))
theorem enters : Enters Go.Proofs.Tryd.prog 18 := enters_of (fn := Go.Proofs.Tryd.f18) (by kernel_rfl) (by kernel_rfl) (by kernel_rfl)
theorem ok {ρ : Obs} (h : ∀ p ∈ ([(57, leastE.sig)] : List (FuncId × Sig)), Enters Go.Proofs.Tryd.prog p.1 ∧ Sound Go.Proofs.Tryd.prog ρ p.1 p.2) : Enters Go.Proofs.Tryd.prog 18 ∧ Sound Go.Proofs.Tryd.prog ρ 18 sig := ⟨enters, sound (envOk_ofF tabDOk h)⟩
theorem okR : Enters Go.Proofs.Tryd.prog 18 ∧ Sound Go.Proofs.Tryd.prog rho 18 sig := ok (fun p hp => by
  simp only [List.mem_cons, List.not_mem_nil, or_false] at hp
  rcases hp with rfl
  · exact leastE.okR)
end DoneE
namespace PassesE
abbrev ps : List PM := [.bx 93 [.v (.ptr Ly), .r 3 I64 false, .r 3 I64 false, .r 97 U64 false, .v I64, .v .bool, .v I64, .v I64, .r 3 I64 true]]
abbrev rs : List PM := [.val I64]
noncomputable abbrev code : Code := (Go.Proofs.Tryd.f19.body.getD .skip)
noncomputable def env : Env := mkEnvF tabD [] 5 (fixL ps) [] []
abbrev D : Type := (((Option (List Int)) × ((List Int) × ((List Int) × ((List Int) × (Int × (Bool × (Int × (Int × ((List Int) × Bool))))))))) × Int × Unit)
noncomputable def run' (e0_0 : (Option (List Int))) (e0_1 : (List Int)) (e0_2 : (List Int)) (e0_3 : (List Int)) (e0_4 : Int) (e0_5 : Bool) (e0_6 : Int) (e0_7 : Int) (e0_8 : (List Int)) : Option D := some ((e0_0, e0_1, e0_2, e0_3, e0_4, e0_5, e0_6, e0_7, e0_8, Bool.false), e0_4, ())
noncomputable def run (d : Ds (List.map PM.ty ps)) : Option (Ds (muts ps ++ List.map PM.ty rs)) := match d with
  | ((e0_0, e0_1, e0_2, e0_3, e0_4, e0_5, e0_6, e0_7, e0_8, _), _) => run' e0_0 e0_1 e0_2 e0_3 e0_4 e0_5 e0_6 e0_7 e0_8
theorem run_is : ∀ d, runF env 7 code [2] ps rs d = run d := fun d => by kernel_rfl
theorem loops : LoopsOk env code := loopsOk_of (l := []) (by kernel_rfl) (fun p hp => by
  cases hp)
noncomputable def pre (e0_0 : (Option (List Int))) (e0_1 : (List Int)) (e0_2 : (List Int)) (e0_3 : (List Int)) (e0_4 : Int) (e0_5 : Bool) (e0_6 : Int) (e0_7 : Int) (e0_8 : (List Int)) : Bool := (run' e0_0 e0_1 e0_2 e0_3 e0_4 e0_5 e0_6 e0_7 e0_8).isSome
noncomputable def fn (e0_0 : (Option (List Int))) (e0_1 : (List Int)) (e0_2 : (List Int)) (e0_3 : (List Int)) (e0_4 : Int) (e0_5 : Bool) (e0_6 : Int) (e0_7 : Int) (e0_8 : (List Int)) : D := match run' e0_0 e0_1 e0_2 e0_3 e0_4 e0_5 e0_6 e0_7 e0_8 with
  | some x => x
  | none => default
noncomputable def sig : Sig := ⟨ps, rs, fun d => match d with
  | ((e0_0, e0_1, e0_2, e0_3, e0_4, e0_5, e0_6, e0_7, e0_8, _), _) => pre e0_0 e0_1 e0_2 e0_3 e0_4 e0_5 e0_6 e0_7 e0_8, fun d => match d with
  | ((e0_0, e0_1, e0_2, e0_3, e0_4, e0_5, e0_6, e0_7, e0_8, _), _) => fn e0_0 e0_1 e0_2 e0_3 e0_4 e0_5 e0_6 e0_7 e0_8, false⟩
theorem run_fn (e0_0 : (Option (List Int))) (e0_1 : (List Int)) (e0_2 : (List Int)) (e0_3 : (List Int)) (e0_4 : Int) (e0_5 : Bool) (e0_6 : Int) (e0_7 : Int) (e0_8 : (List Int)) (h : pre e0_0 e0_1 e0_2 e0_3 e0_4 e0_5 e0_6 e0_7 e0_8 = true) : run' e0_0 e0_1 e0_2 e0_3 e0_4 e0_5 e0_6 e0_7 e0_8 = some (fn e0_0 e0_1 e0_2 e0_3 e0_4 e0_5 e0_6 e0_7 e0_8) := by
  unfold pre at h
  unfold fn
  cases e : run' e0_0 e0_1 e0_2 e0_3 e0_4 e0_5 e0_6 e0_7 e0_8 with
  | some x => rfl
  | none => rw [e] at h; cases h
theorem is_fn (e0_0 : (Option (List Int))) (e0_1 : (List Int)) (e0_2 : (List Int)) (e0_3 : (List Int)) (e0_4 : Int) (e0_5 : Bool) (e0_6 : Int) (e0_7 : Int) (e0_8 : (List Int)) {x : D} (h : run' e0_0 e0_1 e0_2 e0_3 e0_4 e0_5 e0_6 e0_7 e0_8 = some x) : pre e0_0 e0_1 e0_2 e0_3 e0_4 e0_5 e0_6 e0_7 e0_8 = true ∧ fn e0_0 e0_1 e0_2 e0_3 e0_4 e0_5 e0_6 e0_7 e0_8 = x := by
  unfold pre fn
  rw [h]
  exact ⟨rfl, rfl⟩
theorem sound {ρ : Obs} (hE : EnvOk Go.Proofs.Tryd.prog ρ env) : Sound Go.Proofs.Tryd.prog ρ 19 sig := sound_of (fn := Go.Proofs.Tryd.f19) (c := code) (res := [2]) hE (by kernel_rfl) (by kernel_rfl) (by kernel_rfl) (by kernel_rfl) (by kernel_rfl) loops rfl (show 1 ≤ 7 by decide) (fun d hd => (run_is d).trans (by
  obtain ⟨⟨e0_0, e0_1, e0_2, e0_3, e0_4, e0_5, e0_6, e0_7, e0_8, _⟩, _⟩ := d
  exact run_fn e0_0 e0_1 e0_2 e0_3 e0_4 e0_5 e0_6 e0_7 e0_8 hd))
theorem enters : Enters Go.Proofs.Tryd.prog 19 := enters_of (fn := Go.Proofs.Tryd.f19) (by kernel_rfl) (by kernel_rfl) (by kernel_rfl)
theorem ok {ρ : Obs} (h : ∀ p ∈ ([] : List (FuncId × Sig)), Enters Go.Proofs.Tryd.prog p.1 ∧ Sound Go.Proofs.Tryd.prog ρ p.1 p.2) : Enters Go.Proofs.Tryd.prog 19 ∧ Sound Go.Proofs.Tryd.prog ρ 19 sig := ⟨enters, sound (envOk_ofF tabDOk h)⟩
theorem okR : Enters Go.Proofs.Tryd.prog 19 ∧ Sound Go.Proofs.Tryd.prog rho 19 sig := ok (fun p hp => by
  cases hp)
end PassesE
namespace BoundsE
abbrev ps : List PM := [.bx 93 [.v (.ptr Ly), .r 3 I64 false, .r 3 I64 false, .r 97 U64 false, .v I64, .v .bool, .v I64, .v I64, .r 3 I64 true]]
abbrev rs : List PM := [.own 3 I64]
noncomputable abbrev code : Code := (Go.Proofs.Tryd.f25.body.getD .skip)
noncomputable def env : Env := mkEnvF tabD [(58, CloneI.sig)] 5 (fixL ps) [] []
abbrev D : Type := (((Option (List Int)) × ((List Int) × ((List Int) × ((List Int) × (Int × (Bool × (Int × (Int × ((List Int) × Bool))))))))) × (List Int) × Unit)
noncomputable def run' (e0_0 : (Option (List Int))) (e0_1 : (List Int)) (e0_2 : (List Int)) (e0_3 : (List Int)) (e0_4 : Int) (e0_5 : Bool) (e0_6 : Int) (e0_7 : Int) (e0_8 : (List Int)) : Option D := (if CloneI.pre e0_2 = Bool.true then some ((e0_0, e0_1, e0_2, e0_3, e0_4, e0_5, e0_6, e0_7, e0_8, Bool.false), (CloneI.fn e0_2).1, ())
 else none)
noncomputable def run (d : Ds (List.map PM.ty ps)) : Option (Ds (muts ps ++ List.map PM.ty rs)) := match d with
  | ((e0_0, e0_1, e0_2, e0_3, e0_4, e0_5, e0_6, e0_7, e0_8, _), _) => run' e0_0 e0_1 e0_2 e0_3 e0_4 e0_5 e0_6 e0_7 e0_8
theorem run_is : ∀ d, runF env 8 code [2] ps rs d = run d := fun d => by kernel_rfl
theorem loops : LoopsOk env code := loopsOk_of (l := []) (by kernel_rfl) (fun p hp => by
  cases hp)
noncomputable def pre (e0_0 : (Option (List Int))) (e0_1 : (List Int)) (e0_2 : (List Int)) (e0_3 : (List Int)) (e0_4 : Int) (e0_5 : Bool) (e0_6 : Int) (e0_7 : Int) (e0_8 : (List Int)) : Bool := (run' e0_0 e0_1 e0_2 e0_3 e0_4 e0_5 e0_6 e0_7 e0_8).isSome
noncomputable def fn (e0_0 : (Option (List Int))) (e0_1 : (List Int)) (e0_2 : (List Int)) (e0_3 : (List Int)) (e0_4 : Int) (e0_5 : Bool) (e0_6 : Int) (e0_7 : Int) (e0_8 : (List Int)) : D := match run' e0_0 e0_1 e0_2 e0_3 e0_4 e0_5 e0_6 e0_7 e0_8 with
  | some x => x
  | none => default
noncomputable def sig : Sig := ⟨ps, rs, fun d => match d with
  | ((e0_0, e0_1, e0_2, e0_3, e0_4, e0_5, e0_6, e0_7, e0_8, _), _) => pre e0_0 e0_1 e0_2 e0_3 e0_4 e0_5 e0_6 e0_7 e0_8, fun d => match d with
  | ((e0_0, e0_1, e0_2, e0_3, e0_4, e0_5, e0_6, e0_7, e0_8, _), _) => fn e0_0 e0_1 e0_2 e0_3 e0_4 e0_5 e0_6 e0_7 e0_8, false⟩
theorem run_fn (e0_0 : (Option (List Int))) (e0_1 : (List Int)) (e0_2 : (List Int)) (e0_3 : (List Int)) (e0_4 : Int) (e0_5 : Bool) (e0_6 : Int) (e0_7 : Int) (e0_8 : (List Int)) (h : pre e0_0 e0_1 e0_2 e0_3 e0_4 e0_5 e0_6 e0_7 e0_8 = true) : run' e0_0 e0_1 e0_2 e0_3 e0_4 e0_5 e0_6 e0_7 e0_8 = some (fn e0_0 e0_1 e0_2 e0_3 e0_4 e0_5 e0_6 e0_7 e0_8) := by
  unfold pre at h
  unfold fn
  cases e : run' e0_0 e0_1 e0_2 e0_3 e0_4 e0_5 e0_6 e0_7 e0_8 with
  | some x => rfl
  | none => rw [e] at h; cases h
theorem is_fn (e0_0 : (Option (List Int))) (e0_1 : (List Int)) (e0_2 : (List Int)) (e0_3 : (List Int)) (e0_4 : Int) (e0_5 : Bool) (e0_6 : Int) (e0_7 : Int) (e0_8 : (List Int)) {x : D} (h : run' e0_0 e0_1 e0_2 e0_3 e0_4 e0_5 e0_6 e0_7 e0_8 = some x) : pre e0_0 e0_1 e0_2 e0_3 e0_4 e0_5 e0_6 e0_7 e0_8 = true ∧ fn e0_0 e0_1 e0_2 e0_3 e0_4 e0_5 e0_6 e0_7 e0_8 = x := by
  unfold pre fn
  rw [h]
  exact ⟨rfl, rfl⟩
theorem sound {ρ : Obs} (hE : EnvOk Go.Proofs.Tryd.prog ρ env) : Sound Go.Proofs.Tryd.prog ρ 25 sig := sound_of (fn := Go.Proofs.Tryd.f25) (c := code) (res := [2]) hE (by kernel_rfl) (by kernel_rfl) (by kernel_rfl) (by kernel_rfl) (by kernel_rfl) loops rfl (show 1 ≤ 8 by decide) (fun d hd => (run_is d).trans (by
  obtain ⟨⟨e0_0, e0_1, e0_2, e0_3, e0_4, e0_5, e0_6, e0_7, e0_8, _⟩, _⟩ := d
  exact run_fn e0_0 e0_1 e0_2 e0_3 e0_4 e0_5 e0_6 e0_7 e0_8 hd))
theorem enters : Enters Go.Proofs.Tryd.prog 25 := enters_of (fn := Go.Proofs.Tryd.f25) (by kernel_rfl) (by kernel_rfl) (by kernel_rfl)
theorem ok {ρ : Obs} (h : ∀ p ∈ ([(58, CloneI.sig)] : List (FuncId × Sig)), Enters Go.Proofs.Tryd.prog p.1 ∧ Sound Go.Proofs.Tryd.prog ρ p.1 p.2) : Enters Go.Proofs.Tryd.prog 25 ∧ Sound Go.Proofs.Tryd.prog ρ 25 sig := ⟨enters, sound (envOk_ofF tabDOk h)⟩
theorem okR : Enters Go.Proofs.Tryd.prog 25 ∧ Sound Go.Proofs.Tryd.prog rho 25 sig := ok (fun p hp => by
  simp only [List.mem_cons, List.not_mem_nil, or_false] at hp
  rcases hp with rfl
  · exact CloneI.okR)
end BoundsE
namespace DirtyE
abbrev ps : List PM := [.bx 93 [.v (.ptr Ly), .r 3 I64 false, .r 3 I64 false, .r 97 U64 false, .v I64, .v .bool, .v I64, .v I64, .r 3 I64 true]]
abbrev rs : List PM := [.own 4 .bool]
noncomputable abbrev code : Code := (Go.Proofs.Tryd.f29.body.getD .skip)
abbrev s3 : Shape := ⟨[.box 0 0, .un, .un, .row 5, .un, .un, .un, .un, .un, .un, .un, .un, .v I64, .v I64, .un, .un, .un, .un, .un, .un, .un, .un, .un, .un, .un, .un, .un, .un, .un, .un, .un, .un, .un, .un], [.cells (93 : Go.TypeId) [.v (.ptr (.one (.list I64))), .row 1, .row 2, .row 3, .v I64, .v .bool, .v I64, .v I64, .row 4], .row (3 : Go.TypeId) I64, .row (3 : Go.TypeId) I64, .row (97 : Go.TypeId) (.int .u64), .row (3 : Go.TypeId) I64, .row (4 : Go.TypeId) .bool]⟩
abbrev x3 : List Way := [⟨(.ex 0), ⟨[(3, none)]⟩, ⟨[.un, .un, .un, .row 5, .un, .un, .un, .un, .un, .un, .un, .un, .un, .un, .un, .un, .un, .un, .un, .un, .un, .un, .un, .un, .un, .un, .un, .un, .un, .un, .un, .un, .un, .un], [.cells (93 : Go.TypeId) [.v (.ptr (.one (.list I64))), .row 1, .row 2, .row 3, .v I64, .v .bool, .v I64, .v I64, .row 4], .row (3 : Go.TypeId) I64, .row (3 : Go.TypeId) I64, .row (97 : Go.TypeId) (.int .u64), .row (3 : Go.TypeId) I64, .row (4 : Go.TypeId) .bool]⟩⟩]
abbrev V3 : Type := (Int × Int × Unit) × (((Option (List Int)) × Int × Bool × Int × Int × Unit) × (List Int) × (List Int) × (List Int) × (List Int) × (List Bool) × Unit)
abbrev X3 : Type := (Unit) × (((Option (List Int)) × Int × Bool × Int × Int × Unit) × (List Int) × (List Int) × (List Int) × (List Int) × (List Bool) × Unit)
noncomputable def R3 {R : Type} (t12 : Int) (t13 : Int) (c0x0 : (Option (List Int))) (c0x4 : Int) (c0x5 : Bool) (c0x6 : Int) (c0x7 : Int) (r1 : List Int) (r2 : List Int) (r3 : List Int) (r4 : List Int) (r5 : List Bool) (k : V3 → Option R) (kx : X3 → Option R) : Option R := (if Decidable.decide (t13 < t12) = Bool.true then (if (0 : Int) ≤ IntKind.wrap .i64 (Int.tdiv t13 (64 : Int)) then (if IntKind.wrap .i64 (Int.tdiv t13 (64 : Int)) < (↑(List.length r3) : Int) then (if (0 : Int) ≤ Int.tmod t13 (64 : Int) then (if (0 : Int) ≤ t13 then (if t13 < (↑(List.length r5) : Int) then (if Int.toNat t13 < List.length r5 then k ((t12, IntKind.wrap .i64 (t13 + (1 : Int)), ()), ((c0x0, c0x4, c0x5, c0x6, c0x7, ()), r1, r2, r3, r4, List.set r5 (Int.toNat t13) (bitsZ Go.BinOp.and Go.IntKind.u64 (Int.fdiv (List.getD r3 (Int.toNat (IntKind.wrap .i64 (Int.tdiv t13 (64 : Int)))) (0 : Int)) ((2 : Int) ^ Min.min (Int.toNat (Int.tmod t13 (64 : Int))) (64 : Nat))) (1 : Int) != (0 : Int)), ()))
 else none)
 else none)
 else none)
 else none)
 else none)
 else none)
 else kx (((()), ((c0x0, c0x4, c0x5, c0x6, c0x7, ()), r1, r2, r3, r4, r5, ()))))
noncomputable def rd3 : Rd (VO s3) (Xs x3) := fun v k kx => match v with
  | ((t12, t13, _), ((c0x0, c0x4, c0x5, c0x6, c0x7, _), r1, r2, r3, r4, r5, _)) => R3 t12 t13 c0x0 c0x4 c0x5 c0x6 c0x7 r1 r2 r3 r4 r5 k kx
noncomputable def F3 (t12 : Int) (t13 : Int) (c0x0 : (Option (List Int))) (c0x4 : Int) (c0x5 : Bool) (c0x6 : Int) (c0x7 : Int) (r1 : List Int) (r2 : List Int) (r3 : List Int) (r4 : List Int) (r5 : List Bool) : Option X3 := finOf rd3 ((t12, t13, ()), ((c0x0, c0x4, c0x5, c0x6, c0x7, ()), r1, r2, r3, r4, r5, ()))
theorem F3_inv {t12 : Int} {c0x0 : (Option (List Int))} {c0x4 : Int} {c0x5 : Bool} {c0x6 : Int} {c0x7 : Int} {r1 : List Int} {r2 : List Int} {r3 : List Int} {r4 : List Int} (I : Int → List Bool → Prop) (μ : Int → List Bool → Nat) (Q : X3 → Prop) (h : ∀ (t13 : Int) (r5 : List Bool), I t13 r5 → Led (fun (R : Type) (k : V3 → Option R) (kx : X3 → Option R) => R3 t12 t13 c0x0 c0x4 c0x5 c0x6 c0x7 r1 r2 r3 r4 r5 k kx) (fun v => ∃ (t13' : Int) (r5' : List Bool), v = ((t12, t13', ()), ((c0x0, c0x4, c0x5, c0x6, c0x7, ()), r1, r2, r3, r4, r5', ())) ∧ I t13' r5' ∧ μ t13' r5' < μ t13 r5) Q) : ∀ (t13 : Int) (r5 : List Bool), I t13 r5 → ∃ z, F3 t12 t13 c0x0 c0x4 c0x5 c0x6 c0x7 r1 r2 r3 r4 r5 = some z ∧ Q z := fun t13 r5 hi => by
  refine finOf_inv (V := V3) (X := X3) (rd := rd3) (fun v => ∃ (t13' : Int) (r5' : List Bool), v = ((t12, t13', ()), ((c0x0, c0x4, c0x5, c0x6, c0x7, ()), r1, r2, r3, r4, r5', ())) ∧ I t13' r5') (fun v => match v with
    | ((t12, t13, _), ((c0x0, c0x4, c0x5, c0x6, c0x7, _), r1, r2, r3, r4, r5, _)) => μ t13 r5) Q (fun v hv => ?_) ((t12, t13, ()), ((c0x0, c0x4, c0x5, c0x6, c0x7, ()), r1, r2, r3, r4, r5, ())) ⟨t13, r5, rfl, hi⟩
  obtain ⟨t13, r5, rfl, hi⟩ := hv
  refine led_mono (h t13 r5 hi) ?_ (fun _ q => q)
  rintro v ⟨t13', r5', rfl, h1, h2⟩
  exact ⟨⟨t13', r5', rfl, h1⟩, h2⟩
noncomputable def L3 : Lp := ⟨3, ⟨[(0, none), (3, none), (12, none), (13, none)]⟩, s3, x3, fun v => match v with
  | ((t12, t13, _), ((c0x0, c0x4, c0x5, c0x6, c0x7, _), r1, r2, r3, r4, r5, _)) => F3 t12 t13 c0x0 c0x4 c0x5 c0x6 c0x7 r1 r2 r3 r4 r5⟩
theorem ends3 : Ends L3 rd3 := ends_fin (fun v => by
  obtain ⟨⟨t12, t13, _⟩, ⟨⟨c0x0, c0x4, c0x5, c0x6, c0x7, _⟩, r1, r2, r3, r4, r5, _⟩⟩ := v
  rfl)
noncomputable def env : Env := mkEnvF tabD [(22, Shards.sig)] 5 (fixL ps) [] [L3]
theorem round3 : RoundIs env (sub [true, true, false, true, false, false] code) L3 rd3 := fun R v k kx => by kernel_rfl
abbrev D : Type := (((Option (List Int)) × ((List Int) × ((List Int) × ((List Int) × (Int × (Bool × (Int × (Int × ((List Int) × Bool))))))))) × (List Bool) × Unit)
noncomputable def run' (e0_0 : (Option (List Int))) (e0_1 : (List Int)) (e0_2 : (List Int)) (e0_3 : (List Int)) (e0_4 : Int) (e0_5 : Bool) (e0_6 : Int) (e0_7 : Int) (e0_8 : (List Int)) : Option D := (if Shards.pre e0_0 = Bool.true then (if (Shards.fn e0_0).1 = (Shards.fn e0_0).1 then (if (0 : Int) ≤ (Shards.fn e0_0).1 then (if Int.toNat (Shards.fn e0_0).1 * (1 : Nat) ≤ (140737488355328 : Nat) then (match F3 ((↑(List.length (List.replicate (Int.toNat (Shards.fn e0_0).1) Bool.false)) : Int)) ((0 : Int)) (e0_0) (e0_4) (e0_5) (e0_6) (e0_7) (e0_1) (e0_2) (e0_3) (e0_8) (List.replicate (Int.toNat (Shards.fn e0_0).1) Bool.false) with
  | some ((_, ((c0x0_1, c0x4_1, c0x5_1, c0x6_1, c0x7_1, _), r1_1, r2_1, r3_1, r4_1, r5_1, _))) => some ((c0x0_1, r1_1, r2_1, r3_1, c0x4_1, c0x5_1, c0x6_1, c0x7_1, r4_1, Bool.false), r5_1, ())
  | none => none)
 else none)
 else none)
 else none)
 else none)
noncomputable def run (d : Ds (List.map PM.ty ps)) : Option (Ds (muts ps ++ List.map PM.ty rs)) := match d with
  | ((e0_0, e0_1, e0_2, e0_3, e0_4, e0_5, e0_6, e0_7, e0_8, _), _) => run' e0_0 e0_1 e0_2 e0_3 e0_4 e0_5 e0_6 e0_7 e0_8
theorem run_is : ∀ d, runF env 34 code [2] ps rs d = run d := fun d => by kernel_rfl
theorem loops : LoopsOk env code := loopsOk_of (l := [[true, true, false, true, false, false]]) (by kernel_rfl) (fun p hp => by
  simp only [List.mem_cons, List.not_mem_nil, or_false] at hp
  rcases hp with rfl
  · exact loopOk_lpF (L := L3) (x := sub [true, true, false, true, false, false] code) (by kernel_rfl) (by simp [L3]) round3 ends3
  )
noncomputable def pre (e0_0 : (Option (List Int))) (e0_1 : (List Int)) (e0_2 : (List Int)) (e0_3 : (List Int)) (e0_4 : Int) (e0_5 : Bool) (e0_6 : Int) (e0_7 : Int) (e0_8 : (List Int)) : Bool := (run' e0_0 e0_1 e0_2 e0_3 e0_4 e0_5 e0_6 e0_7 e0_8).isSome
noncomputable def fn (e0_0 : (Option (List Int))) (e0_1 : (List Int)) (e0_2 : (List Int)) (e0_3 : (List Int)) (e0_4 : Int) (e0_5 : Bool) (e0_6 : Int) (e0_7 : Int) (e0_8 : (List Int)) : D := match run' e0_0 e0_1 e0_2 e0_3 e0_4 e0_5 e0_6 e0_7 e0_8 with
  | some x => x
  | none => default
noncomputable def sig : Sig := ⟨ps, rs, fun d => match d with
  | ((e0_0, e0_1, e0_2, e0_3, e0_4, e0_5, e0_6, e0_7, e0_8, _), _) => pre e0_0 e0_1 e0_2 e0_3 e0_4 e0_5 e0_6 e0_7 e0_8, fun d => match d with
  | ((e0_0, e0_1, e0_2, e0_3, e0_4, e0_5, e0_6, e0_7, e0_8, _), _) => fn e0_0 e0_1 e0_2 e0_3 e0_4 e0_5 e0_6 e0_7 e0_8, false⟩
theorem run_fn (e0_0 : (Option (List Int))) (e0_1 : (List Int)) (e0_2 : (List Int)) (e0_3 : (List Int)) (e0_4 : Int) (e0_5 : Bool) (e0_6 : Int) (e0_7 : Int) (e0_8 : (List Int)) (h : pre e0_0 e0_1 e0_2 e0_3 e0_4 e0_5 e0_6 e0_7 e0_8 = true) : run' e0_0 e0_1 e0_2 e0_3 e0_4 e0_5 e0_6 e0_7 e0_8 = some (fn e0_0 e0_1 e0_2 e0_3 e0_4 e0_5 e0_6 e0_7 e0_8) := by
  unfold pre at h
  unfold fn
  cases e : run' e0_0 e0_1 e0_2 e0_3 e0_4 e0_5 e0_6 e0_7 e0_8 with
  | some x => rfl
  | none => rw [e] at h; cases h
theorem is_fn (e0_0 : (Option (List Int))) (e0_1 : (List Int)) (e0_2 : (List Int)) (e0_3 : (List Int)) (e0_4 : Int) (e0_5 : Bool) (e0_6 : Int) (e0_7 : Int) (e0_8 : (List Int)) {x : D} (h : run' e0_0 e0_1 e0_2 e0_3 e0_4 e0_5 e0_6 e0_7 e0_8 = some x) : pre e0_0 e0_1 e0_2 e0_3 e0_4 e0_5 e0_6 e0_7 e0_8 = true ∧ fn e0_0 e0_1 e0_2 e0_3 e0_4 e0_5 e0_6 e0_7 e0_8 = x := by
  unfold pre fn
  rw [h]
  exact ⟨rfl, rfl⟩
theorem sound {ρ : Obs} (hE : EnvOk Go.Proofs.Tryd.prog ρ env) : Sound Go.Proofs.Tryd.prog ρ 29 sig := sound_of (fn := Go.Proofs.Tryd.f29) (c := code) (res := [2]) hE (by kernel_rfl) (by kernel_rfl) (by kernel_rfl) (by kernel_rfl) (by kernel_rfl) loops rfl (show 1 ≤ 34 by decide) (fun d hd => (run_is d).trans (by
  obtain ⟨⟨e0_0, e0_1, e0_2, e0_3, e0_4, e0_5, e0_6, e0_7, e0_8, _⟩, _⟩ := d
  exact run_fn e0_0 e0_1 e0_2 e0_3 e0_4 e0_5 e0_6 e0_7 e0_8 hd))
theorem enters : Enters Go.Proofs.Tryd.prog 29 := enters_of (fn := Go.Proofs.Tryd.f29) (by kernel_rfl) (by kernel_rfl) (by kernel_rfl)
theorem ok {ρ : Obs} (h : ∀ p ∈ ([(22, Shards.sig)] : List (FuncId × Sig)), Enters Go.Proofs.Tryd.prog p.1 ∧ Sound Go.Proofs.Tryd.prog ρ p.1 p.2) : Enters Go.Proofs.Tryd.prog 29 ∧ Sound Go.Proofs.Tryd.prog ρ 29 sig := ⟨enters, sound (envOk_ofF tabDOk h)⟩
theorem okR : Enters Go.Proofs.Tryd.prog 29 ∧ Sound Go.Proofs.Tryd.prog rho 29 sig := ok (fun p hp => by
  simp only [List.mem_cons, List.not_mem_nil, or_false] at hp
  rcases hp with rfl
  · exact Shards.okR)
end DirtyE
namespace fits
abbrev ps : List PM := [.bx 93 [.v (.ptr Ly), .r 3 I64 false, .r 3 I64 false, .r 97 U64 false, .v I64, .v .bool, .v I64, .v I64, .r 3 I64 true], .val I64, .val (.list (.pair I64 (.list I64)))]
abbrev rs : List PM := [.val .bool]
noncomputable abbrev code : Code := (Go.Proofs.Tryd.f59.body.getD .skip)
abbrev s11 : Shape := ⟨[.box 0 0, .un, .v (.list (.pair I64 (.list I64))), .un, .un, .un, .un, .un, .v I64, .v I64, .v I64, .v I64, .un, .un, .un, .un, .un, .un, .un, .un, .un, .un, .un, .un, .un, .un, .un, .un, .un, .un, .un, .un, .un, .un, .un, .un, .un, .un, .un, .un, .un, .un, .un, .un, .un, .un, .un, .un, .un, .un, .un, .un, .un, .un, .un, .un, .un, .un, .un, .un, .un, .un, .un, .un, .un, .un, .un, .un, .un, .un, .v (.list I64), .v I64, .v I64, .un, .un, .un, .un, .un, .un, .un, .un, .un, .un, .un, .un, .un, .un, .un, .un, .un, .un, .un, .un, .un, .un, .un, .un, .un, .un, .un, .un], [.cells (93 : Go.TypeId) [.v (.ptr (.one (.list I64))), .row 1, .row 2, .row 3, .v I64, .v .bool, .v I64, .v I64, .row 4], .row (3 : Go.TypeId) I64, .row (3 : Go.TypeId) I64, .row (97 : Go.TypeId) (.int .u64), .row (3 : Go.TypeId) I64]⟩
abbrev x11 : List Way := [⟨.rt, ⟨[(6, none)]⟩, ⟨[.un, .un, .un, .un, .un, .un, .v .bool, .un, .un, .un, .un, .un, .un, .un, .un, .un, .un, .un, .un, .un, .un, .un, .un, .un, .un, .un, .un, .un, .un, .un, .un, .un, .un, .un, .un, .un, .un, .un, .un, .un, .un, .un, .un, .un, .un, .un, .un, .un, .un, .un, .un, .un, .un, .un, .un, .un, .un, .un, .un, .un, .un, .un, .un, .un, .un, .un, .un, .un, .un, .un, .un, .un, .un, .un, .un, .un, .un, .un, .un, .un, .un, .un, .un, .un, .un, .un, .un, .un, .un, .un, .un, .un, .un, .un, .un, .un, .un, .un, .un, .un, .un], [.cells (93 : Go.TypeId) [.v (.ptr (.one (.list I64))), .row 1, .row 2, .row 3, .v I64, .v .bool, .v I64, .v I64, .row 4], .row (3 : Go.TypeId) I64, .row (3 : Go.TypeId) I64, .row (97 : Go.TypeId) (.int .u64), .row (3 : Go.TypeId) I64]⟩⟩, ⟨(.ex 2), ⟨[(0, none), (2, none), (8, none), (9, none), (10, none)]⟩, ⟨[.box 0 0, .un, .v (.list (.pair I64 (.list I64))), .un, .un, .un, .un, .un, .v I64, .v I64, .v I64, .un, .un, .un, .un, .un, .un, .un, .un, .un, .un, .un, .un, .un, .un, .un, .un, .un, .un, .un, .un, .un, .un, .un, .un, .un, .un, .un, .un, .un, .un, .un, .un, .un, .un, .un, .un, .un, .un, .un, .un, .un, .un, .un, .un, .un, .un, .un, .un, .un, .un, .un, .un, .un, .un, .un, .un, .un, .un, .un, .un, .un, .un, .un, .un, .un, .un, .un, .un, .un, .un, .un, .un, .un, .un, .un, .un, .un, .un, .un, .un, .un, .un, .un, .un, .un, .un, .un, .un, .un, .un], [.cells (93 : Go.TypeId) [.v (.ptr (.one (.list I64))), .row 1, .row 2, .row 3, .v I64, .v .bool, .v I64, .v I64, .row 4], .row (3 : Go.TypeId) I64, .row (3 : Go.TypeId) I64, .row (97 : Go.TypeId) (.int .u64), .row (3 : Go.TypeId) I64]⟩⟩]
abbrev V11 : Type := ((List (Int × (List Int))) × Int × Int × Int × Int × (List Int) × Int × Int × Unit) × (((Option (List Int)) × Int × Bool × Int × Int × Unit) × (List Int) × (List Int) × (List Int) × (List Int) × Unit)
abbrev X11 : Type := ((Bool × Unit) × (((Option (List Int)) × Int × Bool × Int × Int × Unit) × (List Int) × (List Int) × (List Int) × (List Int) × Unit)) ⊕ (((List (Int × (List Int))) × Int × Int × Int × Unit) × (((Option (List Int)) × Int × Bool × Int × Int × Unit) × (List Int) × (List Int) × (List Int) × (List Int) × Unit))
noncomputable def R11 {R : Type} (lists2 : (List (Int × (List Int)))) (hi8 : Int) (i9 : Int) (v10 : Int) (last11 : Int) (t70 : (List Int)) (t71 : Int) (t72 : Int) (c0x0 : (Option (List Int))) (c0x4 : Int) (c0x5 : Bool) (c0x6 : Int) (c0x7 : Int) (r1 : List Int) (r2 : List Int) (r3 : List Int) (r4 : List Int) (k : V11 → Option R) (kx : X11 → Option R) : Option R := (if Decidable.decide (t72 < t71) = Bool.true then (if (0 : Int) ≤ t72 then (if t72 < (↑(List.length t70) : Int) then (if Decidable.decide (List.getD t70 (Int.toNat t72) (0 : Int) ≤ last11) = Bool.false then (if LayN.pre c0x0 = Bool.true then (if Decidable.decide (List.getD t70 (Int.toNat t72) (0 : Int) ≥ (LayN.fn c0x0).1) = Bool.false then (if (List.getD t70 (Int.toNat t72) (0 : Int) == v10) = Bool.true then kx (Sum.inl <| ((Bool.false, ()), ((c0x0, c0x4, c0x5, c0x6, c0x7, ()), r1, r2, r3, r4, ())))
 else k ((lists2, hi8, i9, v10, List.getD t70 (Int.toNat t72) (0 : Int), t70, t71, IntKind.wrap .i64 (t72 + (1 : Int)), ()), ((c0x0, c0x4, c0x5, c0x6, c0x7, ()), r1, r2, r3, r4, ())))
 else kx (Sum.inl <| ((Bool.false, ()), ((c0x0, c0x4, c0x5, c0x6, c0x7, ()), r1, r2, r3, r4, ()))))
 else none)
 else kx (Sum.inl <| ((Bool.false, ()), ((c0x0, c0x4, c0x5, c0x6, c0x7, ()), r1, r2, r3, r4, ()))))
 else none)
 else none)
 else kx (Sum.inr <| ((lists2, hi8, i9, v10, ()), ((c0x0, c0x4, c0x5, c0x6, c0x7, ()), r1, r2, r3, r4, ()))))
noncomputable def rd11 : Rd (VO s11) (Xs x11) := fun v k kx => match v with
  | ((lists2, hi8, i9, v10, last11, t70, t71, t72, _), ((c0x0, c0x4, c0x5, c0x6, c0x7, _), r1, r2, r3, r4, _)) => R11 lists2 hi8 i9 v10 last11 t70 t71 t72 c0x0 c0x4 c0x5 c0x6 c0x7 r1 r2 r3 r4 k kx
noncomputable def F11 (lists2 : (List (Int × (List Int)))) (hi8 : Int) (i9 : Int) (v10 : Int) (last11 : Int) (t70 : (List Int)) (t71 : Int) (t72 : Int) (c0x0 : (Option (List Int))) (c0x4 : Int) (c0x5 : Bool) (c0x6 : Int) (c0x7 : Int) (r1 : List Int) (r2 : List Int) (r3 : List Int) (r4 : List Int) : Option X11 := finOf rd11 ((lists2, hi8, i9, v10, last11, t70, t71, t72, ()), ((c0x0, c0x4, c0x5, c0x6, c0x7, ()), r1, r2, r3, r4, ()))
theorem F11_inv {lists2 : (List (Int × (List Int)))} {hi8 : Int} {i9 : Int} {v10 : Int} {t70 : (List Int)} {t71 : Int} {c0x0 : (Option (List Int))} {c0x4 : Int} {c0x5 : Bool} {c0x6 : Int} {c0x7 : Int} {r1 : List Int} {r2 : List Int} {r3 : List Int} {r4 : List Int} (I : Int → Int → Prop) (μ : Int → Int → Nat) (Q : X11 → Prop) (h : ∀ (last11 : Int) (t72 : Int), I last11 t72 → Led (fun (R : Type) (k : V11 → Option R) (kx : X11 → Option R) => R11 lists2 hi8 i9 v10 last11 t70 t71 t72 c0x0 c0x4 c0x5 c0x6 c0x7 r1 r2 r3 r4 k kx) (fun v => ∃ (last11' : Int) (t72' : Int), v = ((lists2, hi8, i9, v10, last11', t70, t71, t72', ()), ((c0x0, c0x4, c0x5, c0x6, c0x7, ()), r1, r2, r3, r4, ())) ∧ I last11' t72' ∧ μ last11' t72' < μ last11 t72) Q) : ∀ (last11 : Int) (t72 : Int), I last11 t72 → ∃ z, F11 lists2 hi8 i9 v10 last11 t70 t71 t72 c0x0 c0x4 c0x5 c0x6 c0x7 r1 r2 r3 r4 = some z ∧ Q z := fun last11 t72 hi => by
  refine finOf_inv (V := V11) (X := X11) (rd := rd11) (fun v => ∃ (last11' : Int) (t72' : Int), v = ((lists2, hi8, i9, v10, last11', t70, t71, t72', ()), ((c0x0, c0x4, c0x5, c0x6, c0x7, ()), r1, r2, r3, r4, ())) ∧ I last11' t72') (fun v => match v with
    | ((lists2, hi8, i9, v10, last11, t70, t71, t72, _), ((c0x0, c0x4, c0x5, c0x6, c0x7, _), r1, r2, r3, r4, _)) => μ last11 t72) Q (fun v hv => ?_) ((lists2, hi8, i9, v10, last11, t70, t71, t72, ()), ((c0x0, c0x4, c0x5, c0x6, c0x7, ()), r1, r2, r3, r4, ())) ⟨last11, t72, rfl, hi⟩
  obtain ⟨last11, t72, rfl, hi⟩ := hv
  refine led_mono (h last11 t72 hi) ?_ (fun _ q => q)
  rintro v ⟨last11', t72', rfl, h1, h2⟩
  exact ⟨⟨last11', t72', rfl, h1⟩, h2⟩
noncomputable def L11 : Lp := ⟨11, ⟨[(0, none), (2, none), (8, none), (9, none), (10, none), (11, none), (70, none), (71, none), (72, none)]⟩, s11, x11, fun v => match v with
  | ((lists2, hi8, i9, v10, last11, t70, t71, t72, _), ((c0x0, c0x4, c0x5, c0x6, c0x7, _), r1, r2, r3, r4, _)) => F11 lists2 hi8 i9 v10 last11 t70 t71 t72 c0x0 c0x4 c0x5 c0x6 c0x7 r1 r2 r3 r4⟩
theorem ends11 : Ends L11 rd11 := ends_fin (fun v => by
  obtain ⟨⟨lists2, hi8, i9, v10, last11, t70, t71, t72, _⟩, ⟨⟨c0x0, c0x4, c0x5, c0x6, c0x7, _⟩, r1, r2, r3, r4, _⟩⟩ := v
  rfl)
abbrev s4 : Shape := ⟨[.box 0 0, .un, .v (.list (.pair I64 (.list I64))), .un, .un, .un, .un, .un, .v I64, .v I64, .v I64, .un, .un, .un, .un, .un, .un, .un, .un, .un, .un, .un, .un, .un, .un, .un, .un, .un, .un, .un, .un, .un, .un, .un, .un, .un, .un, .un, .un, .un, .un, .un, .un, .un, .un, .un, .un, .un, .un, .un, .un, .un, .un, .un, .un, .un, .un, .un, .un, .un, .un, .un, .un, .un, .un, .un, .un, .un, .un, .un, .un, .un, .un, .un, .un, .un, .un, .un, .un, .un, .un, .un, .un, .un, .un, .un, .un, .un, .un, .un, .un, .un, .un, .un, .un, .un, .un, .un, .un, .un, .un], [.cells (93 : Go.TypeId) [.v (.ptr (.one (.list I64))), .row 1, .row 2, .row 3, .v I64, .v .bool, .v I64, .v I64, .row 4], .row (3 : Go.TypeId) I64, .row (3 : Go.TypeId) I64, .row (97 : Go.TypeId) (.int .u64), .row (3 : Go.TypeId) I64]⟩
abbrev x4 : List Way := [⟨.rt, ⟨[(6, none)]⟩, ⟨[.un, .un, .un, .un, .un, .un, .v .bool, .un, .un, .un, .un, .un, .un, .un, .un, .un, .un, .un, .un, .un, .un, .un, .un, .un, .un, .un, .un, .un, .un, .un, .un, .un, .un, .un, .un, .un, .un, .un, .un, .un, .un, .un, .un, .un, .un, .un, .un, .un, .un, .un, .un, .un, .un, .un, .un, .un, .un, .un, .un, .un, .un, .un, .un, .un, .un, .un, .un, .un, .un, .un, .un, .un, .un, .un, .un, .un, .un, .un, .un, .un, .un, .un, .un, .un, .un, .un, .un, .un, .un, .un, .un, .un, .un, .un, .un, .un, .un, .un, .un, .un, .un], [.cells (93 : Go.TypeId) [.v (.ptr (.one (.list I64))), .row 1, .row 2, .row 3, .v I64, .v .bool, .v I64, .v I64, .row 4], .row (3 : Go.TypeId) I64, .row (3 : Go.TypeId) I64, .row (97 : Go.TypeId) (.int .u64), .row (3 : Go.TypeId) I64]⟩⟩, ⟨(.ex 0), ⟨[(2, none), (9, none)]⟩, ⟨[.un, .un, .v (.list (.pair I64 (.list I64))), .un, .un, .un, .un, .un, .un, .v I64, .un, .un, .un, .un, .un, .un, .un, .un, .un, .un, .un, .un, .un, .un, .un, .un, .un, .un, .un, .un, .un, .un, .un, .un, .un, .un, .un, .un, .un, .un, .un, .un, .un, .un, .un, .un, .un, .un, .un, .un, .un, .un, .un, .un, .un, .un, .un, .un, .un, .un, .un, .un, .un, .un, .un, .un, .un, .un, .un, .un, .un, .un, .un, .un, .un, .un, .un, .un, .un, .un, .un, .un, .un, .un, .un, .un, .un, .un, .un, .un, .un, .un, .un, .un, .un, .un, .un, .un, .un, .un, .un], [.cells (93 : Go.TypeId) [.v (.ptr (.one (.list I64))), .row 1, .row 2, .row 3, .v I64, .v .bool, .v I64, .v I64, .row 4], .row (3 : Go.TypeId) I64, .row (3 : Go.TypeId) I64, .row (97 : Go.TypeId) (.int .u64), .row (3 : Go.TypeId) I64]⟩⟩]
abbrev V4 : Type := ((List (Int × (List Int))) × Int × Int × Int × Unit) × (((Option (List Int)) × Int × Bool × Int × Int × Unit) × (List Int) × (List Int) × (List Int) × (List Int) × Unit)
abbrev X4 : Type := ((Bool × Unit) × (((Option (List Int)) × Int × Bool × Int × Int × Unit) × (List Int) × (List Int) × (List Int) × (List Int) × Unit)) ⊕ (((List (Int × (List Int))) × Int × Unit) × (((Option (List Int)) × Int × Bool × Int × Int × Unit) × (List Int) × (List Int) × (List Int) × (List Int) × Unit))
noncomputable def R4 {R : Type} (lists2 : (List (Int × (List Int)))) (hi8 : Int) (i9 : Int) (v10 : Int) (c0x0 : (Option (List Int))) (c0x4 : Int) (c0x5 : Bool) (c0x6 : Int) (c0x7 : Int) (r1 : List Int) (r2 : List Int) (r3 : List Int) (r4 : List Int) (k : V4 → Option R) (kx : X4 → Option R) : Option R := (if Decidable.decide (v10 < hi8) = Bool.true then (if (0 : Int) ≤ v10 then (if v10 < (↑(List.length r1) : Int) then (if (List.getD r1 (Int.toNat v10) (0 : Int) == (0 : Int)) = Bool.true then k ((lists2, hi8, i9, IntKind.wrap .i64 (v10 + (1 : Int)), ()), ((c0x0, c0x4, c0x5, c0x6, c0x7, ()), r1, r2, r3, r4, ()))
 else (if (i9 == (↑(List.length lists2) : Int)) = Bool.false then (if (0 : Int) ≤ i9 then (if i9 < (↑(List.length lists2) : Int) then (if ((List.getD lists2 (Int.toNat i9) ((0 : Int), [])).1 != v10) = Bool.false then (if (0 : Int) ≤ i9 then (if i9 < (↑(List.length lists2) : Int) then (if (0 : Int) ≤ v10 then (if v10 < (↑(List.length r1) : Int) then (if ((↑(List.length (List.getD lists2 (Int.toNat i9) ((0 : Int), [])).2) : Int) != List.getD r1 (Int.toNat v10) (0 : Int)) = Bool.true then kx (Sum.inl <| ((Bool.false, ()), ((c0x0, c0x4, c0x5, c0x6, c0x7, ()), r1, r2, r3, r4, ())))
 else (if (0 : Int) ≤ i9 then (if i9 < (↑(List.length lists2) : Int) then (match F11 (lists2) (hi8) (i9) (v10) ((-1 : Int)) ((List.getD lists2 (Int.toNat i9) ((0 : Int), [])).2) ((↑(List.length (List.getD lists2 (Int.toNat i9) ((0 : Int), [])).2) : Int)) ((0 : Int)) (c0x0) (c0x4) (c0x5) (c0x6) (c0x7) (r1) (r2) (r3) (r4) with
  | some (Sum.inl <| ((t6_1, _), ((c0x0_1, c0x4_1, c0x5_1, c0x6_1, c0x7_1, _), r1_1, r2_1, r3_1, r4_1, _))) => kx (Sum.inl <| ((t6_1, ()), ((c0x0_1, c0x4_1, c0x5_1, c0x6_1, c0x7_1, ()), r1_1, r2_1, r3_1, r4_1, ())))
  | some (Sum.inr <| ((lists2_2, hi8_2, i9_2, v10_2, _), ((c0x0_2, c0x4_2, c0x5_2, c0x6_2, c0x7_2, _), r1_2, r2_2, r3_2, r4_2, _))) => k ((lists2_2, hi8_2, IntKind.wrap .i64 (i9_2 + (1 : Int)), IntKind.wrap .i64 (v10_2 + (1 : Int)), ()), ((c0x0_2, c0x4_2, c0x5_2, c0x6_2, c0x7_2, ()), r1_2, r2_2, r3_2, r4_2, ()))
  | none => none)
 else none)
 else none))
 else none)
 else none)
 else none)
 else none)
 else kx (Sum.inl <| ((Bool.false, ()), ((c0x0, c0x4, c0x5, c0x6, c0x7, ()), r1, r2, r3, r4, ()))))
 else none)
 else none)
 else kx (Sum.inl <| ((Bool.false, ()), ((c0x0, c0x4, c0x5, c0x6, c0x7, ()), r1, r2, r3, r4, ())))))
 else none)
 else none)
 else kx (Sum.inr <| ((lists2, i9, ()), ((c0x0, c0x4, c0x5, c0x6, c0x7, ()), r1, r2, r3, r4, ()))))
noncomputable def rd4 : Rd (VO s4) (Xs x4) := fun v k kx => match v with
  | ((lists2, hi8, i9, v10, _), ((c0x0, c0x4, c0x5, c0x6, c0x7, _), r1, r2, r3, r4, _)) => R4 lists2 hi8 i9 v10 c0x0 c0x4 c0x5 c0x6 c0x7 r1 r2 r3 r4 k kx
noncomputable def F4 (lists2 : (List (Int × (List Int)))) (hi8 : Int) (i9 : Int) (v10 : Int) (c0x0 : (Option (List Int))) (c0x4 : Int) (c0x5 : Bool) (c0x6 : Int) (c0x7 : Int) (r1 : List Int) (r2 : List Int) (r3 : List Int) (r4 : List Int) : Option X4 := finOf rd4 ((lists2, hi8, i9, v10, ()), ((c0x0, c0x4, c0x5, c0x6, c0x7, ()), r1, r2, r3, r4, ()))
theorem F4_inv {lists2 : (List (Int × (List Int)))} {hi8 : Int} {c0x0 : (Option (List Int))} {c0x4 : Int} {c0x5 : Bool} {c0x6 : Int} {c0x7 : Int} {r1 : List Int} {r2 : List Int} {r3 : List Int} {r4 : List Int} (I : Int → Int → Prop) (μ : Int → Int → Nat) (Q : X4 → Prop) (h : ∀ (i9 : Int) (v10 : Int), I i9 v10 → Led (fun (R : Type) (k : V4 → Option R) (kx : X4 → Option R) => R4 lists2 hi8 i9 v10 c0x0 c0x4 c0x5 c0x6 c0x7 r1 r2 r3 r4 k kx) (fun v => ∃ (i9' : Int) (v10' : Int), v = ((lists2, hi8, i9', v10', ()), ((c0x0, c0x4, c0x5, c0x6, c0x7, ()), r1, r2, r3, r4, ())) ∧ I i9' v10' ∧ μ i9' v10' < μ i9 v10) Q) : ∀ (i9 : Int) (v10 : Int), I i9 v10 → ∃ z, F4 lists2 hi8 i9 v10 c0x0 c0x4 c0x5 c0x6 c0x7 r1 r2 r3 r4 = some z ∧ Q z := fun i9 v10 hi => by
  refine finOf_inv (V := V4) (X := X4) (rd := rd4) (fun v => ∃ (i9' : Int) (v10' : Int), v = ((lists2, hi8, i9', v10', ()), ((c0x0, c0x4, c0x5, c0x6, c0x7, ()), r1, r2, r3, r4, ())) ∧ I i9' v10') (fun v => match v with
    | ((lists2, hi8, i9, v10, _), ((c0x0, c0x4, c0x5, c0x6, c0x7, _), r1, r2, r3, r4, _)) => μ i9 v10) Q (fun v hv => ?_) ((lists2, hi8, i9, v10, ()), ((c0x0, c0x4, c0x5, c0x6, c0x7, ()), r1, r2, r3, r4, ())) ⟨i9, v10, rfl, hi⟩
  obtain ⟨i9, v10, rfl, hi⟩ := hv
  refine led_mono (h i9 v10 hi) ?_ (fun _ q => q)
  rintro v ⟨i9', v10', rfl, h1, h2⟩
  exact ⟨⟨i9', v10', rfl, h1⟩, h2⟩
noncomputable def L4 : Lp := ⟨4, ⟨[(0, none), (2, none), (8, none), (9, none), (10, none)]⟩, s4, x4, fun v => match v with
  | ((lists2, hi8, i9, v10, _), ((c0x0, c0x4, c0x5, c0x6, c0x7, _), r1, r2, r3, r4, _)) => F4 lists2 hi8 i9 v10 c0x0 c0x4 c0x5 c0x6 c0x7 r1 r2 r3 r4⟩
theorem ends4 : Ends L4 rd4 := ends_fin (fun v => by
  obtain ⟨⟨lists2, hi8, i9, v10, _⟩, ⟨⟨c0x0, c0x4, c0x5, c0x6, c0x7, _⟩, r1, r2, r3, r4, _⟩⟩ := v
  rfl)
noncomputable def env : Env := mkEnvF tabD [(26, RangeL.sig), (62, LayN.sig)] 5 (fixL ps) [(7, [0, 1, 2, 3, 4, 5, 6, 7, 8, 9, 10, 11, 12, 13, 14, 15, 16, 17, 18, 19, 20, 21, 22, 23, 24, 25, 26, 27, 28])] [L11, L4]
theorem round11 : RoundIs env (sub [true, true, true, false, true, false, false, true, false, false, true, true, true, false, true, false, false] code) L11 rd11 := fun R v k kx => by kernel_rfl
theorem round4 : RoundIs env (sub [true, true, true, false, true, false, false] code) L4 rd4 := fun R v k kx => by kernel_rfl
abbrev D : Type := (((Option (List Int)) × ((List Int) × ((List Int) × ((List Int) × (Int × (Bool × (Int × (Int × ((List Int) × Bool))))))))) × Bool × Unit)
noncomputable def run' (e0_0 : (Option (List Int))) (e0_1 : (List Int)) (e0_2 : (List Int)) (e0_3 : (List Int)) (e0_4 : Int) (e0_5 : Bool) (e0_6 : Int) (e0_7 : Int) (e0_8 : (List Int)) (shard1 : Int) (lists2 : (List (Int × (List Int)))) : Option D := (if RangeL.pre e0_0 shard1 = Bool.true then (match F4 (lists2) ((RangeL.fn e0_0 shard1).2.1) ((0 : Int)) ((RangeL.fn e0_0 shard1).1) (e0_0) (e0_4) (e0_5) (e0_6) (e0_7) (e0_1) (e0_2) (e0_3) (e0_8) with
  | some (Sum.inl <| ((t6_3, _), ((c0x0_3, c0x4_3, c0x5_3, c0x6_3, c0x7_3, _), r1_3, r2_3, r3_3, r4_3, _))) => some ((c0x0_3, r1_3, r2_3, r3_3, c0x4_3, c0x5_3, c0x6_3, c0x7_3, r4_3, Bool.false), t6_3, ())
  | some (Sum.inr <| ((lists2_4, i9_4, _), ((c0x0_4, c0x4_4, c0x5_4, c0x6_4, c0x7_4, _), r1_4, r2_4, r3_4, r4_4, _))) => some ((c0x0_4, r1_4, r2_4, r3_4, c0x4_4, c0x5_4, c0x6_4, c0x7_4, r4_4, Bool.false), i9_4 == (↑(List.length lists2_4) : Int), ())
  | none => none)
 else none)
noncomputable def run (d : Ds (List.map PM.ty ps)) : Option (Ds (muts ps ++ List.map PM.ty rs)) := match d with
  | ((e0_0, e0_1, e0_2, e0_3, e0_4, e0_5, e0_6, e0_7, e0_8, _), shard1, lists2, _) => run' e0_0 e0_1 e0_2 e0_3 e0_4 e0_5 e0_6 e0_7 e0_8 shard1 lists2
theorem run_is : ∀ d, runF env 101 code [6] ps rs d = run d := fun d => by kernel_rfl
theorem loops : LoopsOk env code := loopsOk_of (l := [[true, true, true, false, true, false, false], [true, true, true, false, true, false, false, true, false, false, true, true, true, false, true, false, false]]) (by kernel_rfl) (fun p hp => by
  simp only [List.mem_cons, List.not_mem_nil, or_false] at hp
  rcases hp with rfl | rfl
  · exact loopOk_lpF (L := L4) (x := sub [true, true, true, false, true, false, false] code) (by kernel_rfl) (by simp [L4]) round4 ends4
  · exact loopOk_lpF (L := L11) (x := sub [true, true, true, false, true, false, false, true, false, false, true, true, true, false, true, false, false] code) (by kernel_rfl) (by simp [L11]) round11 ends11
  )
noncomputable def pre (e0_0 : (Option (List Int))) (e0_1 : (List Int)) (e0_2 : (List Int)) (e0_3 : (List Int)) (e0_4 : Int) (e0_5 : Bool) (e0_6 : Int) (e0_7 : Int) (e0_8 : (List Int)) (shard1 : Int) (lists2 : (List (Int × (List Int)))) : Bool := (run' e0_0 e0_1 e0_2 e0_3 e0_4 e0_5 e0_6 e0_7 e0_8 shard1 lists2).isSome
noncomputable def fn (e0_0 : (Option (List Int))) (e0_1 : (List Int)) (e0_2 : (List Int)) (e0_3 : (List Int)) (e0_4 : Int) (e0_5 : Bool) (e0_6 : Int) (e0_7 : Int) (e0_8 : (List Int)) (shard1 : Int) (lists2 : (List (Int × (List Int)))) : D := match run' e0_0 e0_1 e0_2 e0_3 e0_4 e0_5 e0_6 e0_7 e0_8 shard1 lists2 with
  | some x => x
  | none => default
noncomputable def sig : Sig := ⟨ps, rs, fun d => match d with
  | ((e0_0, e0_1, e0_2, e0_3, e0_4, e0_5, e0_6, e0_7, e0_8, _), shard1, lists2, _) => pre e0_0 e0_1 e0_2 e0_3 e0_4 e0_5 e0_6 e0_7 e0_8 shard1 lists2, fun d => match d with
  | ((e0_0, e0_1, e0_2, e0_3, e0_4, e0_5, e0_6, e0_7, e0_8, _), shard1, lists2, _) => fn e0_0 e0_1 e0_2 e0_3 e0_4 e0_5 e0_6 e0_7 e0_8 shard1 lists2, false⟩
theorem run_fn (e0_0 : (Option (List Int))) (e0_1 : (List Int)) (e0_2 : (List Int)) (e0_3 : (List Int)) (e0_4 : Int) (e0_5 : Bool) (e0_6 : Int) (e0_7 : Int) (e0_8 : (List Int)) (shard1 : Int) (lists2 : (List (Int × (List Int)))) (h : pre e0_0 e0_1 e0_2 e0_3 e0_4 e0_5 e0_6 e0_7 e0_8 shard1 lists2 = true) : run' e0_0 e0_1 e0_2 e0_3 e0_4 e0_5 e0_6 e0_7 e0_8 shard1 lists2 = some (fn e0_0 e0_1 e0_2 e0_3 e0_4 e0_5 e0_6 e0_7 e0_8 shard1 lists2) := by
  unfold pre at h
  unfold fn
  cases e : run' e0_0 e0_1 e0_2 e0_3 e0_4 e0_5 e0_6 e0_7 e0_8 shard1 lists2 with
  | some x => rfl
  | none => rw [e] at h; cases h
theorem is_fn (e0_0 : (Option (List Int))) (e0_1 : (List Int)) (e0_2 : (List Int)) (e0_3 : (List Int)) (e0_4 : Int) (e0_5 : Bool) (e0_6 : Int) (e0_7 : Int) (e0_8 : (List Int)) (shard1 : Int) (lists2 : (List (Int × (List Int)))) {x : D} (h : run' e0_0 e0_1 e0_2 e0_3 e0_4 e0_5 e0_6 e0_7 e0_8 shard1 lists2 = some x) : pre e0_0 e0_1 e0_2 e0_3 e0_4 e0_5 e0_6 e0_7 e0_8 shard1 lists2 = true ∧ fn e0_0 e0_1 e0_2 e0_3 e0_4 e0_5 e0_6 e0_7 e0_8 shard1 lists2 = x := by
  unfold pre fn
  rw [h]
  exact ⟨rfl, rfl⟩
theorem sound {ρ : Obs} (hE : EnvOk Go.Proofs.Tryd.prog ρ env) : Sound Go.Proofs.Tryd.prog ρ 59 sig := sound_of (fn := Go.Proofs.Tryd.f59) (c := code) (res := [6]) hE (by kernel_rfl) (by kernel_rfl) (by kernel_rfl) (by kernel_rfl) (by kernel_rfl) loops rfl (show 3 ≤ 101 by decide) (fun d hd => (run_is d).trans (by
  obtain ⟨⟨e0_0, e0_1, e0_2, e0_3, e0_4, e0_5, e0_6, e0_7, e0_8, _⟩, shard1, lists2, _⟩ := d
  exact run_fn e0_0 e0_1 e0_2 e0_3 e0_4 e0_5 e0_6 e0_7 e0_8 shard1 lists2 hd))
theorem enters : Enters Go.Proofs.Tryd.prog 59 := enters_of (fn := Go.Proofs.Tryd.f59) (by kernel_rfl) (by kernel_rfl) (by kernel_rfl)
theorem ok {ρ : Obs} (h : ∀ p ∈ ([(26, RangeL.sig), (62, LayN.sig)] : List (FuncId × Sig)), Enters Go.Proofs.Tryd.prog p.1 ∧ Sound Go.Proofs.Tryd.prog ρ p.1 p.2) : Enters Go.Proofs.Tryd.prog 59 ∧ Sound Go.Proofs.Tryd.prog ρ 59 sig := ⟨enters, sound (envOk_ofF tabDOk h)⟩
theorem okR : Enters Go.Proofs.Tryd.prog 59 ∧ Sound Go.Proofs.Tryd.prog rho 59 sig := ok (fun p hp => by
  simp only [List.mem_cons, List.not_mem_nil, or_false] at hp
  rcases hp with rfl | rfl
  · exact RangeL.okR
  · exact LayN.okR)
end fits
namespace num17
abbrev ps : List PM := [.val I64]
abbrev rs : List PM := [.val I64]
noncomputable abbrev code : Code := (Go.Proofs.Tryd.f16.body.getD .skip)
noncomputable def env : Env := mkEnv tabD [] 0 [] []
abbrev D : Type := (Int × Unit)
noncomputable def run' (e0 : Int) : Option D := some (e0, ())
noncomputable def run (d : Ds (List.map PM.ty ps)) : Option (Ds (muts ps ++ List.map PM.ty rs)) := match d with
  | (e0, _) => run' e0
theorem run_is : ∀ d, runF env 4 code [2] ps rs d = run d := fun d => by kernel_rfl
theorem loops : LoopsOk env code := loopsOk_of (l := []) (by kernel_rfl) (fun p hp => by
  cases hp)
noncomputable def pre (e0 : Int) : Bool := (run' e0).isSome
noncomputable def fn (e0 : Int) : D := match run' e0 with
  | some x => x
  | none => default
noncomputable def sig : Sig := ⟨ps, rs, fun d => match d with
  | (e0, _) => pre e0, fun d => match d with
  | (e0, _) => fn e0, false⟩
theorem run_fn (e0 : Int) (h : pre e0 = true) : run' e0 = some (fn e0) := by
  unfold pre at h
  unfold fn
  cases e : run' e0 with
  | some x => rfl
  | none => rw [e] at h; cases h
theorem is_fn (e0 : Int) {x : D} (h : run' e0 = some x) : pre e0 = true ∧ fn e0 = x := by
  unfold pre fn
  rw [h]
  exact ⟨rfl, rfl⟩
theorem sound {ρ : Obs} (hE : EnvOk Go.Proofs.Tryd.prog ρ env) : Sound Go.Proofs.Tryd.prog ρ 16 sig := sound_of (fn := Go.Proofs.Tryd.f16) (c := code) (res := [2]) hE (by kernel_rfl) (by kernel_rfl) (by kernel_rfl) (by kernel_rfl) (by kernel_rfl) loops rfl (show 1 ≤ 4 by decide) (fun d hd => (run_is d).trans (by
  obtain ⟨e0, _⟩ := d
  exact run_fn e0 hd))
theorem enters : Enters Go.Proofs.Tryd.prog 16 := enters_of (fn := Go.Proofs.Tryd.f16) (by kernel_rfl) (by kernel_rfl) (by kernel_rfl)
theorem ok {ρ : Obs} (h : ∀ p ∈ ([] : List (FuncId × Sig)), Enters Go.Proofs.Tryd.prog p.1 ∧ Sound Go.Proofs.Tryd.prog ρ p.1 p.2) : Enters Go.Proofs.Tryd.prog 16 ∧ Sound Go.Proofs.Tryd.prog ρ 16 sig := ⟨enters, sound (envOk_of tabDOk h)⟩
theorem okR : Enters Go.Proofs.Tryd.prog 16 ∧ Sound Go.Proofs.Tryd.prog rho 16 sig := ok (fun p hp => by
  cases hp)
end num17
namespace cuts17
abbrev ps : List PM := [.val I64, .val (.list I64)]
abbrev rs : List PM := [.own 3 I64]
noncomputable abbrev code : Code := (Go.Proofs.Tryd.f52.body.getD .skip)
abbrev s4 : Shape := ⟨[.v I64, .v (.list I64), .un, .un, .un, .row 0, .v I64, .v I64, .un, .un, .un, .un, .un, .un, .un, .un, .un, .un, .un, .un, .un, .un, .un, .un, .un, .un, .un, .un, .un, .un, .un, .un, .un, .un, .un, .un, .un, .un, .un, .un, .un, .un, .un, .un, .un, .un, .un], [.row (3 : Go.TypeId) I64]⟩
abbrev x4 : List Way := [⟨(.ex 0), ⟨[(0, none), (5, some (.inl ((3 : Go.TypeId), I64))), (6, none)]⟩, ⟨[.v I64, .un, .un, .un, .un, .row 0, .v I64, .un, .un, .un, .un, .un, .un, .un, .un, .un, .un, .un, .un, .un, .un, .un, .un, .un, .un, .un, .un, .un, .un, .un, .un, .un, .un, .un, .un, .un, .un, .un, .un, .un, .un, .un, .un, .un, .un, .un, .un], [.row (3 : Go.TypeId) I64]⟩⟩]
abbrev V4 : Type := (Int × (List Int) × Int × Int × Unit) × ((List Int) × Unit)
abbrev X4 : Type := (Int × Int × Unit) × ((List Int) × Unit)
noncomputable def R4 {R : Type} (n0 : Int) (sizes1 : (List Int)) (c6 : Int) (i7 : Int) (r0 : List Int) (k : V4 → Option R) (kx : X4 → Option R) : Option R := (if Decidable.decide (i7 < (↑(List.length sizes1) : Int)) = Bool.true then (if Decidable.decide (i7 < (400 : Int)) = Bool.true then (if Decidable.decide (c6 < n0) = Bool.true then (if (0 : Int) ≤ i7 then (if i7 < (↑(List.length sizes1) : Int) then (if (List.length r0 + List.length [pickZ Bool.false n0 (IntKind.wrap .i64 (IntKind.wrap .i64 (c6 + Int.tmod (IntKind.wrap .i64 (Int.tmod (List.getD sizes1 (Int.toNat i7) (0 : Int)) (50 : Int) + (50 : Int))) (50 : Int)) + (1 : Int)))]) * (8 : Nat) ≤ (140737488355328 : Nat) then k ((n0, sizes1, pickZ Bool.false n0 (IntKind.wrap .i64 (IntKind.wrap .i64 (c6 + Int.tmod (IntKind.wrap .i64 (Int.tmod (List.getD sizes1 (Int.toNat i7) (0 : Int)) (50 : Int) + (50 : Int))) (50 : Int)) + (1 : Int))), IntKind.wrap .i64 (i7 + (1 : Int)), ()), (r0 ++ [pickZ Bool.false n0 (IntKind.wrap .i64 (IntKind.wrap .i64 (c6 + Int.tmod (IntKind.wrap .i64 (Int.tmod (List.getD sizes1 (Int.toNat i7) (0 : Int)) (50 : Int) + (50 : Int))) (50 : Int)) + (1 : Int)))], ()))
 else none)
 else none)
 else none)
 else kx (((n0, c6, ()), (r0, ()))))
 else kx (((n0, c6, ()), (r0, ()))))
 else kx (((n0, c6, ()), (r0, ()))))
noncomputable def rd4 : Rd (VO s4) (Xs x4) := fun v k kx => match v with
  | ((n0, sizes1, c6, i7, _), (r0, _)) => R4 n0 sizes1 c6 i7 r0 k kx
noncomputable def F4 (n0 : Int) (sizes1 : (List Int)) (c6 : Int) (i7 : Int) (r0 : List Int) : Option X4 := finOf rd4 ((n0, sizes1, c6, i7, ()), (r0, ()))
theorem F4_inv {n0 : Int} {sizes1 : (List Int)} (I : Int → Int → List Int → Prop) (μ : Int → Int → List Int → Nat) (Q : X4 → Prop) (h : ∀ (c6 : Int) (i7 : Int) (r0 : List Int), I c6 i7 r0 → Led (fun (R : Type) (k : V4 → Option R) (kx : X4 → Option R) => R4 n0 sizes1 c6 i7 r0 k kx) (fun v => ∃ (c6' : Int) (i7' : Int) (r0' : List Int), v = ((n0, sizes1, c6', i7', ()), (r0', ())) ∧ I c6' i7' r0' ∧ μ c6' i7' r0' < μ c6 i7 r0) Q) : ∀ (c6 : Int) (i7 : Int) (r0 : List Int), I c6 i7 r0 → ∃ z, F4 n0 sizes1 c6 i7 r0 = some z ∧ Q z := fun c6 i7 r0 hi => by
  refine finOf_inv (V := V4) (X := X4) (rd := rd4) (fun v => ∃ (c6' : Int) (i7' : Int) (r0' : List Int), v = ((n0, sizes1, c6', i7', ()), (r0', ())) ∧ I c6' i7' r0') (fun v => match v with
    | ((n0, sizes1, c6, i7, _), (r0, _)) => μ c6 i7 r0) Q (fun v hv => ?_) ((n0, sizes1, c6, i7, ()), (r0, ())) ⟨c6, i7, r0, rfl, hi⟩
  obtain ⟨c6, i7, r0, rfl, hi⟩ := hv
  refine led_mono (h c6 i7 r0 hi) ?_ (fun _ q => q)
  rintro v ⟨c6', i7', r0', rfl, h1, h2⟩
  exact ⟨⟨c6', i7', r0', rfl, h1⟩, h2⟩
noncomputable def L4 : Lp := ⟨4, ⟨[(0, none), (1, none), (5, some (.inl ((3 : Go.TypeId), I64))), (6, none), (7, none)]⟩, s4, x4, fun v => match v with
  | ((n0, sizes1, c6, i7, _), (r0, _)) => F4 n0 sizes1 c6 i7 r0⟩
theorem ends4 : Ends L4 rd4 := ends_fin (fun v => by
  obtain ⟨⟨n0, sizes1, c6, i7, _⟩, ⟨r0, _⟩⟩ := v
  rfl)
noncomputable def env : Env := mkEnv tabD [] 0 [] [L4]
theorem round4 : RoundIs env (sub [true, true, true, false, true, false, false] code) L4 rd4 := fun R v k kx => by kernel_rfl
abbrev D : Type := ((List Int) × Unit)
noncomputable def run' (n0 : Int) (sizes1 : (List Int)) : Option D := (match F4 (n0) (sizes1) ((0 : Int)) ((0 : Int)) ([]) with
  | some (((n0_1, c6_1, _), (r0_1, _))) => (if Decidable.decide (c6_1 < n0_1) = Bool.true then (if (List.length r0_1 + List.length [n0_1]) * (8 : Nat) ≤ (140737488355328 : Nat) then some (r0_1 ++ [n0_1], ())
 else none)
 else some (r0_1, ()))
  | none => none)
noncomputable def run (d : Ds (List.map PM.ty ps)) : Option (Ds (muts ps ++ List.map PM.ty rs)) := match d with
  | (n0, sizes1, _) => run' n0 sizes1
theorem run_is : ∀ d, runF env 47 code [4] ps rs d = run d := fun d => by kernel_rfl
theorem loops : LoopsOk env code := loopsOk_of (l := [[true, true, true, false, true, false, false]]) (by kernel_rfl) (fun p hp => by
  simp only [List.mem_cons, List.not_mem_nil, or_false] at hp
  rcases hp with rfl
  · exact loopOk_lp (L := L4) (x := sub [true, true, true, false, true, false, false] code) (by kernel_rfl) (by simp [L4]) round4 ends4
  )
noncomputable def pre (n0 : Int) (sizes1 : (List Int)) : Bool := (run' n0 sizes1).isSome
noncomputable def fn (n0 : Int) (sizes1 : (List Int)) : D := match run' n0 sizes1 with
  | some x => x
  | none => default
noncomputable def sig : Sig := ⟨ps, rs, fun d => match d with
  | (n0, sizes1, _) => pre n0 sizes1, fun d => match d with
  | (n0, sizes1, _) => fn n0 sizes1, false⟩
theorem run_fn (n0 : Int) (sizes1 : (List Int)) (h : pre n0 sizes1 = true) : run' n0 sizes1 = some (fn n0 sizes1) := by
  unfold pre at h
  unfold fn
  cases e : run' n0 sizes1 with
  | some x => rfl
  | none => rw [e] at h; cases h
theorem is_fn (n0 : Int) (sizes1 : (List Int)) {x : D} (h : run' n0 sizes1 = some x) : pre n0 sizes1 = true ∧ fn n0 sizes1 = x := by
  unfold pre fn
  rw [h]
  exact ⟨rfl, rfl⟩
theorem sound {ρ : Obs} (hE : EnvOk Go.Proofs.Tryd.prog ρ env) : Sound Go.Proofs.Tryd.prog ρ 52 sig := sound_of (fn := Go.Proofs.Tryd.f52) (c := code) (res := [4]) hE (by kernel_rfl) (by kernel_rfl) (by kernel_rfl) (by kernel_rfl) (by kernel_rfl) loops rfl (show 2 ≤ 47 by decide) (fun d hd => (run_is d).trans (by
  obtain ⟨n0, sizes1, _⟩ := d
  exact run_fn n0 sizes1 hd))
theorem enters : Enters Go.Proofs.Tryd.prog 52 := enters_of (fn := Go.Proofs.Tryd.f52) (by kernel_rfl) (by kernel_rfl) (by kernel_rfl)
theorem ok {ρ : Obs} (h : ∀ p ∈ ([] : List (FuncId × Sig)), Enters Go.Proofs.Tryd.prog p.1 ∧ Sound Go.Proofs.Tryd.prog ρ p.1 p.2) : Enters Go.Proofs.Tryd.prog 52 ∧ Sound Go.Proofs.Tryd.prog ρ 52 sig := ⟨enters, sound (envOk_of tabDOk h)⟩
theorem okR : Enters Go.Proofs.Tryd.prog 52 ∧ Sound Go.Proofs.Tryd.prog rho 52 sig := ok (fun p hp => by
  cases hp)
end cuts17
namespace shape
abbrev ps : List PM := [.val I64, .val (.list Pr), .val (.list I64)]
abbrev rs : List PM := [.val (.obj 0), .val (.ptr Ly)]
noncomputable abbrev code : Code := (Go.Proofs.Tryd.f13.body.getD .skip)
abbrev s4 : Shape := ⟨[.v I64, .v (.list (.pair I64 I64)), .v (.list I64), .un, .un, .un, .un, .un, .row 0, .v I64, .un, .un, .un, .un, .un, .un, .un, .un, .un, .un, .un, .un, .un, .un, .un, .un, .un, .un, .un, .un, .un, .un, .un, .un, .un, .un, .un, .un, .un, .un, .un, .un, .un, .un, .un, .un, .un, .un, .un, .un, .un, .un, .un, .un, .un, .un, .un, .un, .un, .un, .un, .un, .un, .un, .un, .un, .un, .un, .un, .un, .un, .un, .un, .un, .un, .un, .un, .un, .un, .un, .un, .un], [.row (84 : Go.TypeId) (.pair I64 I64)]⟩
abbrev x4 : List Way := [⟨(.ex 0), ⟨[(0, none), (2, none), (8, some (.inl ((84 : Go.TypeId), (.pair I64 I64))))]⟩, ⟨[.v I64, .un, .v (.list I64), .un, .un, .un, .un, .un, .row 0, .un, .un, .un, .un, .un, .un, .un, .un, .un, .un, .un, .un, .un, .un, .un, .un, .un, .un, .un, .un, .un, .un, .un, .un, .un, .un, .un, .un, .un, .un, .un, .un, .un, .un, .un, .un, .un, .un, .un, .un, .un, .un, .un, .un, .un, .un, .un, .un, .un, .un, .un, .un, .un, .un, .un, .un, .un, .un, .un, .un, .un, .un, .un, .un, .un, .un, .un, .un, .un, .un, .un, .un, .un], [.row (84 : Go.TypeId) (.pair I64 I64)]⟩⟩]
abbrev V4 : Type := (Int × (List (Int × Int)) × (List Int) × Int × Unit) × ((List (Int × Int)) × Unit)
abbrev X4 : Type := (Int × (List Int) × Unit) × ((List (Int × Int)) × Unit)
noncomputable def R4 {R : Type} (n0 : Int) (pairs1 : (List (Int × Int))) (sizes2 : (List Int)) (i9 : Int) (r0 : List (Int × Int)) (k : V4 → Option R) (kx : X4 → Option R) : Option R := (if Decidable.decide (i9 < (↑(List.length pairs1) : Int)) = Bool.true then (if Decidable.decide (i9 < (4000 : Int)) = Bool.true then (if Decidable.decide (n0 > (0 : Int)) = Bool.true then (if (0 : Int) ≤ i9 then (if i9 < (↑(List.length pairs1) : Int) then (if n0 = (0 : Int) then none
 else (if n0 = (0 : Int) then none
 else (if (0 : Int) ≤ i9 then (if i9 < (↑(List.length pairs1) : Int) then (if n0 = (0 : Int) then none
 else (if n0 = (0 : Int) then none
 else (if (List.length r0 + List.length [(Int.tmod (IntKind.wrap .i64 (Int.tmod (List.getD pairs1 (Int.toNat i9) ((0 : Int), (0 : Int))).1 n0 + n0)) n0, Int.tmod (IntKind.wrap .i64 (Int.tmod (List.getD pairs1 (Int.toNat i9) ((0 : Int), (0 : Int))).2 n0 + n0)) n0)]) * (16 : Nat) ≤ (140737488355328 : Nat) then k ((n0, pairs1, sizes2, IntKind.wrap .i64 (i9 + (1 : Int)), ()), (r0 ++ [(Int.tmod (IntKind.wrap .i64 (Int.tmod (List.getD pairs1 (Int.toNat i9) ((0 : Int), (0 : Int))).1 n0 + n0)) n0, Int.tmod (IntKind.wrap .i64 (Int.tmod (List.getD pairs1 (Int.toNat i9) ((0 : Int), (0 : Int))).2 n0 + n0)) n0)], ()))
 else none)))
 else none)
 else none)))
 else none)
 else none)
 else kx (((n0, sizes2, ()), (r0, ()))))
 else kx (((n0, sizes2, ()), (r0, ()))))
 else kx (((n0, sizes2, ()), (r0, ()))))
noncomputable def rd4 : Rd (VO s4) (Xs x4) := fun v k kx => match v with
  | ((n0, pairs1, sizes2, i9, _), (r0, _)) => R4 n0 pairs1 sizes2 i9 r0 k kx
noncomputable def F4 (n0 : Int) (pairs1 : (List (Int × Int))) (sizes2 : (List Int)) (i9 : Int) (r0 : List (Int × Int)) : Option X4 := finOf rd4 ((n0, pairs1, sizes2, i9, ()), (r0, ()))
theorem F4_inv {n0 : Int} {pairs1 : (List (Int × Int))} {sizes2 : (List Int)} (I : Int → List (Int × Int) → Prop) (μ : Int → List (Int × Int) → Nat) (Q : X4 → Prop) (h : ∀ (i9 : Int) (r0 : List (Int × Int)), I i9 r0 → Led (fun (R : Type) (k : V4 → Option R) (kx : X4 → Option R) => R4 n0 pairs1 sizes2 i9 r0 k kx) (fun v => ∃ (i9' : Int) (r0' : List (Int × Int)), v = ((n0, pairs1, sizes2, i9', ()), (r0', ())) ∧ I i9' r0' ∧ μ i9' r0' < μ i9 r0) Q) : ∀ (i9 : Int) (r0 : List (Int × Int)), I i9 r0 → ∃ z, F4 n0 pairs1 sizes2 i9 r0 = some z ∧ Q z := fun i9 r0 hi => by
  refine finOf_inv (V := V4) (X := X4) (rd := rd4) (fun v => ∃ (i9' : Int) (r0' : List (Int × Int)), v = ((n0, pairs1, sizes2, i9', ()), (r0', ())) ∧ I i9' r0') (fun v => match v with
    | ((n0, pairs1, sizes2, i9, _), (r0, _)) => μ i9 r0) Q (fun v hv => ?_) ((n0, pairs1, sizes2, i9, ()), (r0, ())) ⟨i9, r0, rfl, hi⟩
  obtain ⟨i9, r0, rfl, hi⟩ := hv
  refine led_mono (h i9 r0 hi) ?_ (fun _ q => q)
  rintro v ⟨i9', r0', rfl, h1, h2⟩
  exact ⟨⟨i9', r0', rfl, h1⟩, h2⟩
noncomputable def L4 : Lp := ⟨4, ⟨[(0, none), (1, none), (2, none), (8, some (.inl ((84 : Go.TypeId), (.pair I64 I64)))), (9, none)]⟩, s4, x4, fun v => match v with
  | ((n0, pairs1, sizes2, i9, _), (r0, _)) => F4 n0 pairs1 sizes2 i9 r0⟩
theorem ends4 : Ends L4 rd4 := ends_fin (fun v => by
  obtain ⟨⟨n0, pairs1, sizes2, i9, _⟩, ⟨r0, _⟩⟩ := v
  rfl)
noncomputable def env : Env := mkEnv tabD [(16, num17.sig), (39, layNew.sig), (51, Make.sig), (52, cuts17.sig)] 0 [(6, [0, 1, 2, 3, 4, 5, 6, 7, 8, 9, 10, 11, 12, 13, 14, 15, 16, 17, 18, 19, 20, 21, 22, 23, 24, 25, 26])] [L4]
theorem round4 : RoundIs env (sub [true, true, true, false, true, false, false] code) L4 rd4 := fun R v k kx => by kernel_rfl
abbrev D : Type := ((Option Gr) × (Option (List Int)) × Unit)
noncomputable def run' (n0 : Int) (pairs1 : (List (Int × Int))) (sizes2 : (List Int)) : Option D := (match F4 (Int.tmod (IntKind.wrap .i64 (Int.tmod n0 (400 : Int) + (400 : Int))) (400 : Int)) (pairs1) (sizes2) ((0 : Int)) ([]) with
  | some (((n0_1, sizes2_1, _), (r0_1, _))) => (if Make.pre n0_1 r0_1 = Bool.true then (if cuts17.pre n0_1 sizes2_1 = Bool.true then (if layNew.pre n0_1 (cuts17.fn n0_1 sizes2_1).1 = Bool.true then (if num17.pre (Make.fn n0_1 r0_1).2.1 = Bool.true then (if ((num17.fn (Make.fn n0_1 r0_1).2.1).1 != (0 : Int)) = Bool.false then (if num17.pre (layNew.fn n0_1 (cuts17.fn n0_1 sizes2_1).1).2.1 = Bool.true then (if ((num17.fn (layNew.fn n0_1 (cuts17.fn n0_1 sizes2_1).1).2.1).1 != (0 : Int)) = Bool.true then some (Option.none, Option.none, ())
 else some ((Make.fn n0_1 r0_1).1, (layNew.fn n0_1 (cuts17.fn n0_1 sizes2_1).1).1, ()))
 else none)
 else some (Option.none, Option.none, ()))
 else none)
 else none)
 else none)
 else none)
  | none => none)
noncomputable def run (d : Ds (List.map PM.ty ps)) : Option (Ds (muts ps ++ List.map PM.ty rs)) := match d with
  | (n0, pairs1, sizes2, _) => run' n0 pairs1 sizes2
theorem run_is : ∀ d, runF env 82 code [6, 7] ps rs d = run d := fun d => by kernel_rfl
theorem loops : LoopsOk env code := loopsOk_of (l := [[true, true, true, false, true, false, false]]) (by kernel_rfl) (fun p hp => by
  simp only [List.mem_cons, List.not_mem_nil, or_false] at hp
  rcases hp with rfl
  · exact loopOk_lp (L := L4) (x := sub [true, true, true, false, true, false, false] code) (by kernel_rfl) (by simp [L4]) round4 ends4
  )
noncomputable def pre (n0 : Int) (pairs1 : (List (Int × Int))) (sizes2 : (List Int)) : Bool := (run' n0 pairs1 sizes2).isSome
noncomputable def fn (n0 : Int) (pairs1 : (List (Int × Int))) (sizes2 : (List Int)) : D := match run' n0 pairs1 sizes2 with
  | some x => x
  | none => default
noncomputable def sig : Sig := ⟨ps, rs, fun d => match d with
  | (n0, pairs1, sizes2, _) => pre n0 pairs1 sizes2, fun d => match d with
  | (n0, pairs1, sizes2, _) => fn n0 pairs1 sizes2, false⟩
theorem run_fn (n0 : Int) (pairs1 : (List (Int × Int))) (sizes2 : (List Int)) (h : pre n0 pairs1 sizes2 = true) : run' n0 pairs1 sizes2 = some (fn n0 pairs1 sizes2) := by
  unfold pre at h
  unfold fn
  cases e : run' n0 pairs1 sizes2 with
  | some x => rfl
  | none => rw [e] at h; cases h
theorem is_fn (n0 : Int) (pairs1 : (List (Int × Int))) (sizes2 : (List Int)) {x : D} (h : run' n0 pairs1 sizes2 = some x) : pre n0 pairs1 sizes2 = true ∧ fn n0 pairs1 sizes2 = x := by
  unfold pre fn
  rw [h]
  exact ⟨rfl, rfl⟩
theorem sound {ρ : Obs} (hE : EnvOk Go.Proofs.Tryd.prog ρ env) : Sound Go.Proofs.Tryd.prog ρ 13 sig := sound_of (fn := Go.Proofs.Tryd.f13) (c := code) (res := [6, 7]) hE (by kernel_rfl) (by kernel_rfl) (by kernel_rfl) (by kernel_rfl) (by kernel_rfl) loops rfl (show 3 ≤ 82 by decide) (fun d hd => (run_is d).trans (by
  obtain ⟨n0, pairs1, sizes2, _⟩ := d
  exact run_fn n0 pairs1 sizes2 hd))
theorem enters : Enters Go.Proofs.Tryd.prog 13 := enters_of (fn := Go.Proofs.Tryd.f13) (by kernel_rfl) (by kernel_rfl) (by kernel_rfl)
theorem ok {ρ : Obs} (h : ∀ p ∈ ([(16, num17.sig), (39, layNew.sig), (51, Make.sig), (52, cuts17.sig)] : List (FuncId × Sig)), Enters Go.Proofs.Tryd.prog p.1 ∧ Sound Go.Proofs.Tryd.prog ρ p.1 p.2) : Enters Go.Proofs.Tryd.prog 13 ∧ Sound Go.Proofs.Tryd.prog ρ 13 sig := ⟨enters, sound (envOk_of tabDOk h)⟩
theorem okR : Enters Go.Proofs.Tryd.prog 13 ∧ Sound Go.Proofs.Tryd.prog rho 13 sig := ok (fun p hp => by
  simp only [List.mem_cons, List.not_mem_nil, or_false] at hp
  rcases hp with rfl | rfl | rfl | rfl
  · exact num17.okR
  · exact layNew.okR
  · exact Make.okR
  · exact cuts17.okR)
end shape
end Go.Proofs.YthbojpaghbbnnaaDoor.Z
namespace Go.Proofs.YthbojpaghbbnnaaDoor.Z
open Go Go.RowKit
set_option linter.unusedVariables false
set_option linter.unusedSimpArgs false
namespace begun
abbrev ps : List PM := [.val (.ptr Ly), .val (.list I64), .val (.list I64)]
abbrev rs : List PM := [.nbx 93 [.v (.ptr Ly), .r 3 I64 false, .r 3 I64 false, .r 97 U64 false, .v I64, .v .bool, .v I64, .v I64, .r 3 I64 true]]
noncomputable abbrev code : Code := (Go.Proofs.Tryd.f54.body.getD .skip)
noncomputable def env : Env := mkEnv tabD [(58, CloneI.sig), (22, Shards.sig)] 0 [] []
abbrev D : Type := ((Option ((Option (List Int)) × ((List Int) × ((List Int) × ((List Int) × (Int × (Bool × (Int × (Int × ((List Int) × Bool)))))))))) × Unit)
noncomputable def run' (l0 : (Option (List Int))) (degrees1 : (List Int)) (bounds2 : (List Int)) : Option D := (if CloneI.pre degrees1 = Bool.true then (if CloneI.pre bounds2 = Bool.true then (if Shards.pre l0 = Bool.true then (if IntKind.wrap .i64 (IntKind.wrap .i64 (Int.tdiv (Shards.fn l0).1 (64 : Int)) + (1 : Int)) = IntKind.wrap .i64 (IntKind.wrap .i64 (Int.tdiv (Shards.fn l0).1 (64 : Int)) + (1 : Int)) then (if (0 : Int) ≤ IntKind.wrap .i64 (IntKind.wrap .i64 (Int.tdiv (Shards.fn l0).1 (64 : Int)) + (1 : Int)) then (if Int.toNat (IntKind.wrap .i64 (IntKind.wrap .i64 (Int.tdiv (Shards.fn l0).1 (64 : Int)) + (1 : Int))) * (8 : Nat) ≤ (140737488355328 : Nat) then some (Option.some (l0, (CloneI.fn degrees1).1, (CloneI.fn bounds2).1, List.replicate (Int.toNat (IntKind.wrap .i64 (IntKind.wrap .i64 (Int.tdiv (Shards.fn l0).1 (64 : Int)) + (1 : Int)))) (0 : Int), (0 : Int), Bool.false, (0 : Int), (-1 : Int), [], Bool.false), ())
 else none)
 else none)
 else none)
 else none)
 else none)
 else none)
noncomputable def run (d : Ds (List.map PM.ty ps)) : Option (Ds (muts ps ++ List.map PM.ty rs)) := match d with
  | (l0, degrees1, bounds2, _) => run' l0 degrees1 bounds2
theorem run_is : ∀ d, runF env 19 code [6] ps rs d = run d := fun d => by kernel_rfl
theorem loops : LoopsOk env code := loopsOk_of (l := []) (by kernel_rfl) (fun p hp => by
  cases hp)
noncomputable def pre (l0 : (Option (List Int))) (degrees1 : (List Int)) (bounds2 : (List Int)) : Bool := (run' l0 degrees1 bounds2).isSome
noncomputable def fn (l0 : (Option (List Int))) (degrees1 : (List Int)) (bounds2 : (List Int)) : D := match run' l0 degrees1 bounds2 with
  | some x => x
  | none => default
noncomputable def sig : Sig := ⟨ps, rs, fun d => match d with
  | (l0, degrees1, bounds2, _) => pre l0 degrees1 bounds2, fun d => match d with
  | (l0, degrees1, bounds2, _) => fn l0 degrees1 bounds2, false⟩
theorem run_fn (l0 : (Option (List Int))) (degrees1 : (List Int)) (bounds2 : (List Int)) (h : pre l0 degrees1 bounds2 = true) : run' l0 degrees1 bounds2 = some (fn l0 degrees1 bounds2) := by
  unfold pre at h
  unfold fn
  cases e : run' l0 degrees1 bounds2 with
  | some x => rfl
  | none => rw [e] at h; cases h
theorem is_fn (l0 : (Option (List Int))) (degrees1 : (List Int)) (bounds2 : (List Int)) {x : D} (h : run' l0 degrees1 bounds2 = some x) : pre l0 degrees1 bounds2 = true ∧ fn l0 degrees1 bounds2 = x := by
  unfold pre fn
  rw [h]
  exact ⟨rfl, rfl⟩
theorem sound {ρ : Obs} (hE : EnvOk Go.Proofs.Tryd.prog ρ env) : Sound Go.Proofs.Tryd.prog ρ 54 sig := sound_of (fn := Go.Proofs.Tryd.f54) (c := code) (res := [6]) hE (by kernel_rfl) (by kernel_rfl) (by kernel_rfl) (by kernel_rfl) (by kernel_rfl) loops rfl (show 3 ≤ 19 by decide) (fun d hd => (run_is d).trans (by
  obtain ⟨l0, degrees1, bounds2, _⟩ := d
  exact run_fn l0 degrees1 bounds2 hd))
theorem enters : Enters Go.Proofs.Tryd.prog 54 := enters_of (fn := Go.Proofs.Tryd.f54) (by kernel_rfl) (by kernel_rfl) (by kernel_rfl)
theorem ok {ρ : Obs} (h : ∀ p ∈ ([(58, CloneI.sig), (22, Shards.sig)] : List (FuncId × Sig)), Enters Go.Proofs.Tryd.prog p.1 ∧ Sound Go.Proofs.Tryd.prog ρ p.1 p.2) : Enters Go.Proofs.Tryd.prog 54 ∧ Sound Go.Proofs.Tryd.prog ρ 54 sig := ⟨enters, sound (envOk_of tabDOk h)⟩
theorem okR : Enters Go.Proofs.Tryd.prog 54 ∧ Sound Go.Proofs.Tryd.prog rho 54 sig := ok (fun p hp => by
  simp only [List.mem_cons, List.not_mem_nil, or_false] at hp
  rcases hp with rfl | rfl
  · exact CloneI.okR
  · exact Shards.okR)
end begun
namespace NewE
abbrev ps : List PM := [.val (.ptr Ly), .val (.list I64)]
abbrev rs : List PM := [.nbx 93 [.v (.ptr Ly), .r 3 I64 false, .r 3 I64 false, .r 97 U64 false, .v I64, .v .bool, .v I64, .v I64, .r 3 I64 true], .val I64]
noncomputable abbrev code : Code := (Go.Proofs.Tryd.f14.body.getD .skip)
abbrev s5 : Shape := ⟨[.v (.ptr (.one (.list I64))), .un, .un, .un, .un, .un, .box 0 0, .un, .un, .un, .un, .un, .un, .un, .un, .un, .un, .v (.list I64), .v I64, .v I64, .un, .un, .un, .un, .un, .un, .un, .un, .un, .un, .un, .un, .un], [.cells (93 : Go.TypeId) [.v (.ptr (.one (.list I64))), .row 1, .row 2, .row 3, .v I64, .v .bool, .v I64, .v I64, .row 4], .row (3 : Go.TypeId) I64, .row (3 : Go.TypeId) I64, .row (97 : Go.TypeId) (.int .u64), .row (3 : Go.TypeId) I64]⟩
abbrev x5 : List Way := [⟨(.ex 0), ⟨[(6, none)]⟩, ⟨[.un, .un, .un, .un, .un, .un, .box 0 0, .un, .un, .un, .un, .un, .un, .un, .un, .un, .un, .un, .un, .un, .un, .un, .un, .un, .un, .un, .un, .un, .un, .un, .un, .un, .un], [.cells (93 : Go.TypeId) [.v (.ptr (.one (.list I64))), .row 1, .row 2, .row 3, .v I64, .v .bool, .v I64, .v I64, .row 4], .row (3 : Go.TypeId) I64, .row (3 : Go.TypeId) I64, .row (97 : Go.TypeId) (.int .u64), .row (3 : Go.TypeId) I64]⟩⟩]
abbrev V5 : Type := ((Option (List Int)) × (List Int) × Int × Int × Unit) × (((Option (List Int)) × Int × Bool × Int × Int × Unit) × (List Int) × (List Int) × (List Int) × (List Int) × Unit)
abbrev X5 : Type := (Unit) × (((Option (List Int)) × Int × Bool × Int × Int × Unit) × (List Int) × (List Int) × (List Int) × (List Int) × Unit)
noncomputable def R5 {R : Type} (l0 : (Option (List Int))) (t17 : (List Int)) (t18 : Int) (t19 : Int) (c0x0 : (Option (List Int))) (c0x4 : Int) (c0x5 : Bool) (c0x6 : Int) (c0x7 : Int) (r1 : List Int) (r2 : List Int) (r3 : List Int) (r4 : List Int) (k : V5 → Option R) (kx : X5 → Option R) : Option R := (if Decidable.decide (t19 < t18) = Bool.true then (if (0 : Int) ≤ t19 then (if t19 < (↑(List.length t17) : Int) then (if Decidable.decide (List.getD t17 (Int.toNat t19) (0 : Int) > (0 : Int)) = Bool.true then (if Shard.pre l0 t19 = Bool.true then (if mark.pre c0x0 r1 r2 r3 c0x4 c0x5 c0x6 c0x7 r4 (Shard.fn l0 t19).1 = Bool.true then (letZ (mark.fn c0x0 r1 r2 r3 c0x4 c0x5 c0x6 c0x7 r4 (Shard.fn l0 t19).1) fun z__1 =>
 k ((l0, t17, t18, IntKind.wrap .i64 (t19 + (1 : Int)), ()), ((z__1.1.1, z__1.1.2.2.2.2.1, z__1.1.2.2.2.2.2.1, z__1.1.2.2.2.2.2.2.1, z__1.1.2.2.2.2.2.2.2.1, ()), z__1.1.2.1, z__1.1.2.2.1, z__1.1.2.2.2.1, z__1.1.2.2.2.2.2.2.2.2.1, ())))
 else none)
 else none)
 else k ((l0, t17, t18, IntKind.wrap .i64 (t19 + (1 : Int)), ()), ((c0x0, c0x4, c0x5, c0x6, c0x7, ()), r1, r2, r3, r4, ())))
 else none)
 else none)
 else kx (((()), ((c0x0, c0x4, c0x5, c0x6, c0x7, ()), r1, r2, r3, r4, ()))))
noncomputable def rd5 : Rd (VO s5) (Xs x5) := fun v k kx => match v with
  | ((l0, t17, t18, t19, _), ((c0x0, c0x4, c0x5, c0x6, c0x7, _), r1, r2, r3, r4, _)) => R5 l0 t17 t18 t19 c0x0 c0x4 c0x5 c0x6 c0x7 r1 r2 r3 r4 k kx
noncomputable def F5 (l0 : (Option (List Int))) (t17 : (List Int)) (t18 : Int) (t19 : Int) (c0x0 : (Option (List Int))) (c0x4 : Int) (c0x5 : Bool) (c0x6 : Int) (c0x7 : Int) (r1 : List Int) (r2 : List Int) (r3 : List Int) (r4 : List Int) : Option X5 := finOf rd5 ((l0, t17, t18, t19, ()), ((c0x0, c0x4, c0x5, c0x6, c0x7, ()), r1, r2, r3, r4, ()))
theorem F5_inv {l0 : (Option (List Int))} {t17 : (List Int)} {t18 : Int} (I : Int → (Option (List Int)) → Int → Bool → Int → Int → List Int → List Int → List Int → List Int → Prop) (μ : Int → (Option (List Int)) → Int → Bool → Int → Int → List Int → List Int → List Int → List Int → Nat) (Q : X5 → Prop) (h : ∀ (t19 : Int) (c0x0 : (Option (List Int))) (c0x4 : Int) (c0x5 : Bool) (c0x6 : Int) (c0x7 : Int) (r1 : List Int) (r2 : List Int) (r3 : List Int) (r4 : List Int), I t19 c0x0 c0x4 c0x5 c0x6 c0x7 r1 r2 r3 r4 → Led (fun (R : Type) (k : V5 → Option R) (kx : X5 → Option R) => R5 l0 t17 t18 t19 c0x0 c0x4 c0x5 c0x6 c0x7 r1 r2 r3 r4 k kx) (fun v => ∃ (t19' : Int) (c0x0' : (Option (List Int))) (c0x4' : Int) (c0x5' : Bool) (c0x6' : Int) (c0x7' : Int) (r1' : List Int) (r2' : List Int) (r3' : List Int) (r4' : List Int), v = ((l0, t17, t18, t19', ()), ((c0x0', c0x4', c0x5', c0x6', c0x7', ()), r1', r2', r3', r4', ())) ∧ I t19' c0x0' c0x4' c0x5' c0x6' c0x7' r1' r2' r3' r4' ∧ μ t19' c0x0' c0x4' c0x5' c0x6' c0x7' r1' r2' r3' r4' < μ t19 c0x0 c0x4 c0x5 c0x6 c0x7 r1 r2 r3 r4) Q) : ∀ (t19 : Int) (c0x0 : (Option (List Int))) (c0x4 : Int) (c0x5 : Bool) (c0x6 : Int) (c0x7 : Int) (r1 : List Int) (r2 : List Int) (r3 : List Int) (r4 : List Int), I t19 c0x0 c0x4 c0x5 c0x6 c0x7 r1 r2 r3 r4 → ∃ z, F5 l0 t17 t18 t19 c0x0 c0x4 c0x5 c0x6 c0x7 r1 r2 r3 r4 = some z ∧ Q z := fun t19 c0x0 c0x4 c0x5 c0x6 c0x7 r1 r2 r3 r4 hi => by
  refine finOf_inv (V := V5) (X := X5) (rd := rd5) (fun v => ∃ (t19' : Int) (c0x0' : (Option (List Int))) (c0x4' : Int) (c0x5' : Bool) (c0x6' : Int) (c0x7' : Int) (r1' : List Int) (r2' : List Int) (r3' : List Int) (r4' : List Int), v = ((l0, t17, t18, t19', ()), ((c0x0', c0x4', c0x5', c0x6', c0x7', ()), r1', r2', r3', r4', ())) ∧ I t19' c0x0' c0x4' c0x5' c0x6' c0x7' r1' r2' r3' r4') (fun v => match v with
    | ((l0, t17, t18, t19, _), ((c0x0, c0x4, c0x5, c0x6, c0x7, _), r1, r2, r3, r4, _)) => μ t19 c0x0 c0x4 c0x5 c0x6 c0x7 r1 r2 r3 r4) Q (fun v hv => ?_) ((l0, t17, t18, t19, ()), ((c0x0, c0x4, c0x5, c0x6, c0x7, ()), r1, r2, r3, r4, ())) ⟨t19, c0x0, c0x4, c0x5, c0x6, c0x7, r1, r2, r3, r4, rfl, hi⟩
  obtain ⟨t19, c0x0, c0x4, c0x5, c0x6, c0x7, r1, r2, r3, r4, rfl, hi⟩ := hv
  refine led_mono (h t19 c0x0 c0x4 c0x5 c0x6 c0x7 r1 r2 r3 r4 hi) ?_ (fun _ q => q)
  rintro v ⟨t19', c0x0', c0x4', c0x5', c0x6', c0x7', r1', r2', r3', r4', rfl, h1, h2⟩
  exact ⟨⟨t19', c0x0', c0x4', c0x5', c0x6', c0x7', r1', r2', r3', r4', rfl, h1⟩, h2⟩
noncomputable def L5 : Lp := ⟨5, ⟨[(0, none), (6, none), (17, none), (18, none), (19, none)]⟩, s5, x5, fun v => match v with
  | ((l0, t17, t18, t19, _), ((c0x0, c0x4, c0x5, c0x6, c0x7, _), r1, r2, r3, r4, _)) => F5 l0 t17 t18 t19 c0x0 c0x4 c0x5 c0x6 c0x7 r1 r2 r3 r4⟩
theorem ends5 : Ends L5 rd5 := ends_fin (fun v => by
  obtain ⟨⟨l0, t17, t18, t19, _⟩, ⟨⟨c0x0, c0x4, c0x5, c0x6, c0x7, _⟩, r1, r2, r3, r4, _⟩⟩ := v
  rfl)
noncomputable def env : Env := mkEnv tabD [(32, Shard.sig), (53, may.sig), (54, begun.sig), (55, mark.sig)] 0 [] [L5]
theorem round5 : RoundIs env (sub [true, true, true, false, true, false, false] code) L5 rd5 := fun R v k kx => by kernel_rfl
abbrev D : Type := ((Option ((Option (List Int)) × ((List Int) × ((List Int) × ((List Int) × (Int × (Bool × (Int × (Int × ((List Int) × Bool)))))))))) × Int × Unit)
noncomputable def run' (l0 : (Option (List Int))) (degrees1 : (List Int)) : Option D := (if may.pre l0 degrees1 = Bool.true then (if (!(may.fn l0 degrees1).1) = Bool.true then some (Option.none, (172 : Int), ())
 else (if begun.pre l0 degrees1 degrees1 = Bool.true then (letZ (begun.fn l0 degrees1 degrees1) fun z_ =>
 (if Option.isNone z_.1 = Bool.true then none
 else (match F5 (l0) (degrees1) ((↑(List.length degrees1) : Int)) ((0 : Int)) ((Option.getD z_.1 (Option.none, [], [], [], (0 : Int), Bool.false, (0 : Int), (0 : Int), [], Bool.false)).1) ((Option.getD z_.1 (Option.none, [], [], [], (0 : Int), Bool.false, (0 : Int), (0 : Int), [], Bool.false)).2.2.2.2.1) ((Option.getD z_.1 (Option.none, [], [], [], (0 : Int), Bool.false, (0 : Int), (0 : Int), [], Bool.false)).2.2.2.2.2.1) ((Option.getD z_.1 (Option.none, [], [], [], (0 : Int), Bool.false, (0 : Int), (0 : Int), [], Bool.false)).2.2.2.2.2.2.1) ((Option.getD z_.1 (Option.none, [], [], [], (0 : Int), Bool.false, (0 : Int), (0 : Int), [], Bool.false)).2.2.2.2.2.2.2.1) ((Option.getD z_.1 (Option.none, [], [], [], (0 : Int), Bool.false, (0 : Int), (0 : Int), [], Bool.false)).2.1) ((Option.getD z_.1 (Option.none, [], [], [], (0 : Int), Bool.false, (0 : Int), (0 : Int), [], Bool.false)).2.2.1) ((Option.getD z_.1 (Option.none, [], [], [], (0 : Int), Bool.false, (0 : Int), (0 : Int), [], Bool.false)).2.2.2.1) ((Option.getD z_.1 (Option.none, [], [], [], (0 : Int), Bool.false, (0 : Int), (0 : Int), [], Bool.false)).2.2.2.2.2.2.2.2.1) with
  | some ((_, ((c0x0_3, c0x4_3, c0x5_3, c0x6_3, c0x7_3, _), r1_3, r2_3, r3_3, r4_3, _))) => some (Option.some (c0x0_3, r1_3, r2_3, r3_3, c0x4_3, c0x5_3, c0x6_3, c0x7_3, r4_3, Bool.false), (0 : Int), ())
  | none => none)))
 else none))
 else none)
noncomputable def run (d : Ds (List.map PM.ty ps)) : Option (Ds (muts ps ++ List.map PM.ty rs)) := match d with
  | (l0, degrees1, _) => run' l0 degrees1
theorem run_is : ∀ d, runF env 33 code [4, 5] ps rs d = run d := fun d => by kernel_rfl
theorem loops : LoopsOk env code := loopsOk_of (l := [[true, true, true, false, true, false, false]]) (by kernel_rfl) (fun p hp => by
  simp only [List.mem_cons, List.not_mem_nil, or_false] at hp
  rcases hp with rfl
  · exact loopOk_lp (L := L5) (x := sub [true, true, true, false, true, false, false] code) (by kernel_rfl) (by simp [L5]) round5 ends5
  )
noncomputable def pre (l0 : (Option (List Int))) (degrees1 : (List Int)) : Bool := (run' l0 degrees1).isSome
noncomputable def fn (l0 : (Option (List Int))) (degrees1 : (List Int)) : D := match run' l0 degrees1 with
  | some x => x
  | none => default
noncomputable def sig : Sig := ⟨ps, rs, fun d => match d with
  | (l0, degrees1, _) => pre l0 degrees1, fun d => match d with
  | (l0, degrees1, _) => fn l0 degrees1, false⟩
theorem run_fn (l0 : (Option (List Int))) (degrees1 : (List Int)) (h : pre l0 degrees1 = true) : run' l0 degrees1 = some (fn l0 degrees1) := by
  unfold pre at h
  unfold fn
  cases e : run' l0 degrees1 with
  | some x => rfl
  | none => rw [e] at h; cases h
theorem is_fn (l0 : (Option (List Int))) (degrees1 : (List Int)) {x : D} (h : run' l0 degrees1 = some x) : pre l0 degrees1 = true ∧ fn l0 degrees1 = x := by
  unfold pre fn
  rw [h]
  exact ⟨rfl, rfl⟩
theorem sound {ρ : Obs} (hE : EnvOk Go.Proofs.Tryd.prog ρ env) : Sound Go.Proofs.Tryd.prog ρ 14 sig := sound_of (fn := Go.Proofs.Tryd.f14) (c := code) (res := [4, 5]) hE (by kernel_rfl) (by kernel_rfl) (by kernel_rfl) (by kernel_rfl) (by kernel_rfl) loops rfl (show 2 ≤ 33 by decide) (fun d hd => (run_is d).trans (by
  obtain ⟨l0, degrees1, _⟩ := d
  exact run_fn l0 degrees1 hd))
theorem enters : Enters Go.Proofs.Tryd.prog 14 := enters_of (fn := Go.Proofs.Tryd.f14) (by kernel_rfl) (by kernel_rfl) (by kernel_rfl)
theorem ok {ρ : Obs} (h : ∀ p ∈ ([(32, Shard.sig), (53, may.sig), (54, begun.sig), (55, mark.sig)] : List (FuncId × Sig)), Enters Go.Proofs.Tryd.prog p.1 ∧ Sound Go.Proofs.Tryd.prog ρ p.1 p.2) : Enters Go.Proofs.Tryd.prog 14 ∧ Sound Go.Proofs.Tryd.prog ρ 14 sig := ⟨enters, sound (envOk_of tabDOk h)⟩
theorem okR : Enters Go.Proofs.Tryd.prog 14 ∧ Sound Go.Proofs.Tryd.prog rho 14 sig := ok (fun p hp => by
  simp only [List.mem_cons, List.not_mem_nil, or_false] at hp
  rcases hp with rfl | rfl | rfl | rfl
  · exact Shard.okR
  · exact may.okR
  · exact begun.okR
  · exact mark.okR)
end NewE
namespace FromE
abbrev ps : List PM := [.val (.ptr Ly), .val (.list I64), .val Ck]
abbrev rs : List PM := [.nbx 93 [.v (.ptr Ly), .r 3 I64 false, .r 3 I64 false, .r 97 U64 false, .v I64, .v .bool, .v I64, .v I64, .r 3 I64 true], .val I64]
noncomputable abbrev code : Code := (Go.Proofs.Tryd.f34.body.getD .skip)
abbrev s6 : Shape := ⟨[.v (.ptr (.one (.list I64))), .v (.list I64), .un, .un, .un, .box 0 0, .un, .un, .un, .un, .un, .un, .un, .un, .un, .un, .un, .un, .un, .un, .un, .un, .un, .un, .un, .un, .un, .un, .un, .un, .un, .un, .un, .un, .un, .un, .un, .v (.list I64), .v I64, .v I64, .un, .un, .un, .un, .un, .un, .un, .un, .un, .un, .un, .un, .un, .un, .un, .un, .un, .un, .un, .un, .un, .un, .un, .un, .un, .un, .un, .un, .un, .un, .un, .un, .un, .un, .un, .un, .un, .un, .un], [.cells (25 : Go.TypeId) [.v I64, .v (.list I64), .v (.list .bool)]]⟩
abbrev x6 : List Way := [⟨.rt, ⟨[(6, none), (7, none)]⟩, ⟨[.un, .un, .un, .un, .un, .un, .nlp, .v I64, .un, .un, .un, .un, .un, .un, .un, .un, .un, .un, .un, .un, .un, .un, .un, .un, .un, .un, .un, .un, .un, .un, .un, .un, .un, .un, .un, .un, .un, .un, .un, .un, .un, .un, .un, .un, .un, .un, .un, .un, .un, .un, .un, .un, .un, .un, .un, .un, .un, .un, .un, .un, .un, .un, .un, .un, .un, .un, .un, .un, .un, .un, .un, .un, .un, .un, .un, .un, .un, .un, .un], []⟩⟩, ⟨(.ex 0), ⟨[(0, none), (1, none), (5, none)]⟩, ⟨[.v (.ptr (.one (.list I64))), .v (.list I64), .un, .un, .un, .box 0 0, .un, .un, .un, .un, .un, .un, .un, .un, .un, .un, .un, .un, .un, .un, .un, .un, .un, .un, .un, .un, .un, .un, .un, .un, .un, .un, .un, .un, .un, .un, .un, .un, .un, .un, .un, .un, .un, .un, .un, .un, .un, .un, .un, .un, .un, .un, .un, .un, .un, .un, .un, .un, .un, .un, .un, .un, .un, .un, .un, .un, .un, .un, .un, .un, .un, .un, .un, .un, .un, .un, .un, .un, .un], [.cells (25 : Go.TypeId) [.v I64, .v (.list I64), .v (.list .bool)]]⟩⟩]
abbrev V6 : Type := ((Option (List Int)) × (List Int) × (List Int) × Int × Int × Unit) × ((Int × (List Int) × (List Bool) × Unit) × Unit)
abbrev X6 : Type := ((Int × Unit) × (Unit)) ⊕ (((Option (List Int)) × (List Int) × Unit) × ((Int × (List Int) × (List Bool) × Unit) × Unit))
noncomputable def R6 {R : Type} (l0 : (Option (List Int))) (degrees1 : (List Int)) (t37 : (List Int)) (t38 : Int) (t39 : Int) (c0x0 : Int) (c0x1 : (List Int)) (c0x2 : (List Bool)) (k : V6 → Option R) (kx : X6 → Option R) : Option R := (if Decidable.decide (t39 < t38) = Bool.true then (if (0 : Int) ≤ t39 then (if t39 < (↑(List.length t37) : Int) then (if Decidable.decide (List.getD t37 (Int.toNat t39) (0 : Int) < (0 : Int)) = Bool.false then (if (0 : Int) ≤ t39 then (if t39 < (↑(List.length degrees1) : Int) then (if Decidable.decide (List.getD t37 (Int.toNat t39) (0 : Int) > List.getD degrees1 (Int.toNat t39) (0 : Int)) = Bool.true then kx (Sum.inl <| (((180 : Int), ()), (())))
 else k ((l0, degrees1, t37, t38, IntKind.wrap .i64 (t39 + (1 : Int)), ()), ((c0x0, c0x1, c0x2, ()), ())))
 else none)
 else none)
 else kx (Sum.inl <| (((180 : Int), ()), (()))))
 else none)
 else none)
 else kx (Sum.inr <| ((l0, degrees1, ()), ((c0x0, c0x1, c0x2, ()), ()))))
noncomputable def rd6 : Rd (VO s6) (Xs x6) := fun v k kx => match v with
  | ((l0, degrees1, t37, t38, t39, _), ((c0x0, c0x1, c0x2, _), _)) => R6 l0 degrees1 t37 t38 t39 c0x0 c0x1 c0x2 k kx
noncomputable def F6 (l0 : (Option (List Int))) (degrees1 : (List Int)) (t37 : (List Int)) (t38 : Int) (t39 : Int) (c0x0 : Int) (c0x1 : (List Int)) (c0x2 : (List Bool)) : Option X6 := finOf rd6 ((l0, degrees1, t37, t38, t39, ()), ((c0x0, c0x1, c0x2, ()), ()))
theorem F6_inv {l0 : (Option (List Int))} {degrees1 : (List Int)} {t37 : (List Int)} {t38 : Int} {c0x0 : Int} {c0x1 : (List Int)} {c0x2 : (List Bool)} (I : Int → Prop) (μ : Int → Nat) (Q : X6 → Prop) (h : ∀ (t39 : Int), I t39 → Led (fun (R : Type) (k : V6 → Option R) (kx : X6 → Option R) => R6 l0 degrees1 t37 t38 t39 c0x0 c0x1 c0x2 k kx) (fun v => ∃ (t39' : Int), v = ((l0, degrees1, t37, t38, t39', ()), ((c0x0, c0x1, c0x2, ()), ())) ∧ I t39' ∧ μ t39' < μ t39) Q) : ∀ (t39 : Int), I t39 → ∃ z, F6 l0 degrees1 t37 t38 t39 c0x0 c0x1 c0x2 = some z ∧ Q z := fun t39 hi => by
  refine finOf_inv (V := V6) (X := X6) (rd := rd6) (fun v => ∃ (t39' : Int), v = ((l0, degrees1, t37, t38, t39', ()), ((c0x0, c0x1, c0x2, ()), ())) ∧ I t39') (fun v => match v with
    | ((l0, degrees1, t37, t38, t39, _), ((c0x0, c0x1, c0x2, _), _)) => μ t39) Q (fun v hv => ?_) ((l0, degrees1, t37, t38, t39, ()), ((c0x0, c0x1, c0x2, ()), ())) ⟨t39, rfl, hi⟩
  obtain ⟨t39, rfl, hi⟩ := hv
  refine led_mono (h t39 hi) ?_ (fun _ q => q)
  rintro v ⟨t39', rfl, h1, h2⟩
  exact ⟨⟨t39', rfl, h1⟩, h2⟩
noncomputable def L6 : Lp := ⟨6, ⟨[(0, none), (1, none), (5, none), (37, none), (38, none), (39, none)]⟩, s6, x6, fun v => match v with
  | ((l0, degrees1, t37, t38, t39, _), ((c0x0, c0x1, c0x2, _), _)) => F6 l0 degrees1 t37 t38 t39 c0x0 c0x1 c0x2⟩
theorem ends6 : Ends L6 rd6 := ends_fin (fun v => by
  obtain ⟨⟨l0, degrees1, t37, t38, t39, _⟩, ⟨⟨c0x0, c0x1, c0x2, _⟩, _⟩⟩ := v
  rfl)
abbrev s14 : Shape := ⟨[.un, .un, .un, .un, .un, .un, .un, .un, .un, .un, .box 0 0, .un, .un, .un, .un, .un, .un, .un, .un, .un, .un, .un, .un, .un, .un, .un, .un, .un, .un, .un, .un, .un, .un, .un, .un, .un, .un, .un, .un, .un, .un, .un, .un, .un, .un, .un, .un, .un, .un, .un, .un, .un, .un, .un, .un, .un, .un, .un, .un, .un, .un, .un, .un, .un, .un, .un, .v (.list .bool), .v I64, .v I64, .un, .un, .un, .un, .un, .un, .un, .un, .un, .un], [.cells (93 : Go.TypeId) [.v (.ptr (.one (.list I64))), .row 1, .row 2, .row 3, .v I64, .v .bool, .v I64, .v I64, .row 4], .row (3 : Go.TypeId) I64, .row (3 : Go.TypeId) I64, .row (97 : Go.TypeId) (.int .u64), .row (3 : Go.TypeId) I64]⟩
abbrev x14 : List Way := [⟨(.ex 2), ⟨[(10, none)]⟩, ⟨[.un, .un, .un, .un, .un, .un, .un, .un, .un, .un, .box 0 0, .un, .un, .un, .un, .un, .un, .un, .un, .un, .un, .un, .un, .un, .un, .un, .un, .un, .un, .un, .un, .un, .un, .un, .un, .un, .un, .un, .un, .un, .un, .un, .un, .un, .un, .un, .un, .un, .un, .un, .un, .un, .un, .un, .un, .un, .un, .un, .un, .un, .un, .un, .un, .un, .un, .un, .un, .un, .un, .un, .un, .un, .un, .un, .un, .un, .un, .un, .un], [.cells (93 : Go.TypeId) [.v (.ptr (.one (.list I64))), .row 1, .row 2, .row 3, .v I64, .v .bool, .v I64, .v I64, .row 4], .row (3 : Go.TypeId) I64, .row (3 : Go.TypeId) I64, .row (97 : Go.TypeId) (.int .u64), .row (3 : Go.TypeId) I64]⟩⟩]
abbrev V14 : Type := ((List Bool) × Int × Int × Unit) × (((Option (List Int)) × Int × Bool × Int × Int × Unit) × (List Int) × (List Int) × (List Int) × (List Int) × Unit)
abbrev X14 : Type := (Unit) × (((Option (List Int)) × Int × Bool × Int × Int × Unit) × (List Int) × (List Int) × (List Int) × (List Int) × Unit)
noncomputable def R14 {R : Type} (t66 : (List Bool)) (t67 : Int) (t68 : Int) (c0x0 : (Option (List Int))) (c0x4 : Int) (c0x5 : Bool) (c0x6 : Int) (c0x7 : Int) (r1 : List Int) (r2 : List Int) (r3 : List Int) (r4 : List Int) (k : V14 → Option R) (kx : X14 → Option R) : Option R := (if Decidable.decide (t68 < t67) = Bool.true then (if (0 : Int) ≤ t68 then (if t68 < (↑(List.length t66) : Int) then (if List.getD t66 (Int.toNat t68) Bool.false = Bool.true then (if mark.pre c0x0 r1 r2 r3 c0x4 c0x5 c0x6 c0x7 r4 t68 = Bool.true then (letZ (mark.fn c0x0 r1 r2 r3 c0x4 c0x5 c0x6 c0x7 r4 t68) fun z__3 =>
 k ((t66, t67, IntKind.wrap .i64 (t68 + (1 : Int)), ()), ((z__3.1.1, z__3.1.2.2.2.2.1, z__3.1.2.2.2.2.2.1, z__3.1.2.2.2.2.2.2.1, z__3.1.2.2.2.2.2.2.2.1, ()), z__3.1.2.1, z__3.1.2.2.1, z__3.1.2.2.2.1, z__3.1.2.2.2.2.2.2.2.2.1, ())))
 else none)
 else k ((t66, t67, IntKind.wrap .i64 (t68 + (1 : Int)), ()), ((c0x0, c0x4, c0x5, c0x6, c0x7, ()), r1, r2, r3, r4, ())))
 else none)
 else none)
 else kx (((()), ((c0x0, c0x4, c0x5, c0x6, c0x7, ()), r1, r2, r3, r4, ()))))
noncomputable def rd14 : Rd (VO s14) (Xs x14) := fun v k kx => match v with
  | ((t66, t67, t68, _), ((c0x0, c0x4, c0x5, c0x6, c0x7, _), r1, r2, r3, r4, _)) => R14 t66 t67 t68 c0x0 c0x4 c0x5 c0x6 c0x7 r1 r2 r3 r4 k kx
noncomputable def F14 (t66 : (List Bool)) (t67 : Int) (t68 : Int) (c0x0 : (Option (List Int))) (c0x4 : Int) (c0x5 : Bool) (c0x6 : Int) (c0x7 : Int) (r1 : List Int) (r2 : List Int) (r3 : List Int) (r4 : List Int) : Option X14 := finOf rd14 ((t66, t67, t68, ()), ((c0x0, c0x4, c0x5, c0x6, c0x7, ()), r1, r2, r3, r4, ()))
theorem F14_inv {t66 : (List Bool)} {t67 : Int} (I : Int → (Option (List Int)) → Int → Bool → Int → Int → List Int → List Int → List Int → List Int → Prop) (μ : Int → (Option (List Int)) → Int → Bool → Int → Int → List Int → List Int → List Int → List Int → Nat) (Q : X14 → Prop) (h : ∀ (t68 : Int) (c0x0 : (Option (List Int))) (c0x4 : Int) (c0x5 : Bool) (c0x6 : Int) (c0x7 : Int) (r1 : List Int) (r2 : List Int) (r3 : List Int) (r4 : List Int), I t68 c0x0 c0x4 c0x5 c0x6 c0x7 r1 r2 r3 r4 → Led (fun (R : Type) (k : V14 → Option R) (kx : X14 → Option R) => R14 t66 t67 t68 c0x0 c0x4 c0x5 c0x6 c0x7 r1 r2 r3 r4 k kx) (fun v => ∃ (t68' : Int) (c0x0' : (Option (List Int))) (c0x4' : Int) (c0x5' : Bool) (c0x6' : Int) (c0x7' : Int) (r1' : List Int) (r2' : List Int) (r3' : List Int) (r4' : List Int), v = ((t66, t67, t68', ()), ((c0x0', c0x4', c0x5', c0x6', c0x7', ()), r1', r2', r3', r4', ())) ∧ I t68' c0x0' c0x4' c0x5' c0x6' c0x7' r1' r2' r3' r4' ∧ μ t68' c0x0' c0x4' c0x5' c0x6' c0x7' r1' r2' r3' r4' < μ t68 c0x0 c0x4 c0x5 c0x6 c0x7 r1 r2 r3 r4) Q) : ∀ (t68 : Int) (c0x0 : (Option (List Int))) (c0x4 : Int) (c0x5 : Bool) (c0x6 : Int) (c0x7 : Int) (r1 : List Int) (r2 : List Int) (r3 : List Int) (r4 : List Int), I t68 c0x0 c0x4 c0x5 c0x6 c0x7 r1 r2 r3 r4 → ∃ z, F14 t66 t67 t68 c0x0 c0x4 c0x5 c0x6 c0x7 r1 r2 r3 r4 = some z ∧ Q z := fun t68 c0x0 c0x4 c0x5 c0x6 c0x7 r1 r2 r3 r4 hi => by
  refine finOf_inv (V := V14) (X := X14) (rd := rd14) (fun v => ∃ (t68' : Int) (c0x0' : (Option (List Int))) (c0x4' : Int) (c0x5' : Bool) (c0x6' : Int) (c0x7' : Int) (r1' : List Int) (r2' : List Int) (r3' : List Int) (r4' : List Int), v = ((t66, t67, t68', ()), ((c0x0', c0x4', c0x5', c0x6', c0x7', ()), r1', r2', r3', r4', ())) ∧ I t68' c0x0' c0x4' c0x5' c0x6' c0x7' r1' r2' r3' r4') (fun v => match v with
    | ((t66, t67, t68, _), ((c0x0, c0x4, c0x5, c0x6, c0x7, _), r1, r2, r3, r4, _)) => μ t68 c0x0 c0x4 c0x5 c0x6 c0x7 r1 r2 r3 r4) Q (fun v hv => ?_) ((t66, t67, t68, ()), ((c0x0, c0x4, c0x5, c0x6, c0x7, ()), r1, r2, r3, r4, ())) ⟨t68, c0x0, c0x4, c0x5, c0x6, c0x7, r1, r2, r3, r4, rfl, hi⟩
  obtain ⟨t68, c0x0, c0x4, c0x5, c0x6, c0x7, r1, r2, r3, r4, rfl, hi⟩ := hv
  refine led_mono (h t68 c0x0 c0x4 c0x5 c0x6 c0x7 r1 r2 r3 r4 hi) ?_ (fun _ q => q)
  rintro v ⟨t68', c0x0', c0x4', c0x5', c0x6', c0x7', r1', r2', r3', r4', rfl, h1, h2⟩
  exact ⟨⟨t68', c0x0', c0x4', c0x5', c0x6', c0x7', r1', r2', r3', r4', rfl, h1⟩, h2⟩
noncomputable def L14 : Lp := ⟨14, ⟨[(10, none), (66, none), (67, none), (68, none)]⟩, s14, x14, fun v => match v with
  | ((t66, t67, t68, _), ((c0x0, c0x4, c0x5, c0x6, c0x7, _), r1, r2, r3, r4, _)) => F14 t66 t67 t68 c0x0 c0x4 c0x5 c0x6 c0x7 r1 r2 r3 r4⟩
theorem ends14 : Ends L14 rd14 := ends_fin (fun v => by
  obtain ⟨⟨t66, t67, t68, _⟩, ⟨⟨c0x0, c0x4, c0x5, c0x6, c0x7, _⟩, r1, r2, r3, r4, _⟩⟩ := v
  rfl)
noncomputable def env : Env := mkEnv tabD [(22, Shards.sig), (53, may.sig), (54, begun.sig), (55, mark.sig)] 0 [(3, [0, 1, 2, 3, 4, 5, 6, 7, 8, 9, 10, 11, 12, 13, 14, 15, 16, 17, 18])] [L6, L14]
theorem round6 : RoundIs env (sub [true, true, true, false, true, false, false] code) L6 rd6 := fun R v k kx => by kernel_rfl
theorem round14 : RoundIs env (sub [true, true, true, true, true, true, false, true, false, false] code) L14 rd14 := fun R v k kx => by kernel_rfl
abbrev D : Type := ((Option ((Option (List Int)) × ((List Int) × ((List Int) × ((List Int) × (Int × (Bool × (Int × (Int × ((List Int) × Bool)))))))))) × Int × Unit)
noncomputable def run' (l0 : (Option (List Int))) (degrees1 : (List Int)) (c2 : (Int × ((List Int) × (List Bool)))) : Option D := (if may.pre l0 degrees1 = Bool.true then (if (!(may.fn l0 degrees1).1) = Bool.true then some (Option.none, (172 : Int), ())
 else (if Decidable.decide (c2.1 < (0 : Int)) = Bool.false then (if ((↑(List.length c2.2.1) : Int) != (↑(List.length degrees1) : Int)) = Bool.false then (if Shards.pre l0 = Bool.true then (if ((↑(List.length c2.2.2) : Int) != (Shards.fn l0).1) = Bool.true then some (Option.none, (180 : Int), ())
 else (match F6 (l0) (degrees1) (c2.2.1) ((↑(List.length c2.2.1) : Int)) ((0 : Int)) (c2.1) (c2.2.1) (c2.2.2) with
  | some (Sum.inl <| ((t7_1, _), _)) => some (Option.none, t7_1, ())
  | some (Sum.inr <| ((l0_2, degrees1_2, _), ((c0x0_2, c0x1_2, c0x2_2, _), _))) => (if begun.pre l0_2 degrees1_2 c0x1_2 = Bool.true then (letZ (begun.fn l0_2 degrees1_2 c0x1_2) fun z__2 =>
 (if Option.isNone z__2.1 = Bool.true then none
 else (match F14 (c0x2_2) ((↑(List.length c0x2_2) : Int)) ((0 : Int)) ((Option.getD z__2.1 (Option.none, [], [], [], (0 : Int), Bool.false, (0 : Int), (0 : Int), [], Bool.false)).1) (c0x0_2) ((Option.getD z__2.1 (Option.none, [], [], [], (0 : Int), Bool.false, (0 : Int), (0 : Int), [], Bool.false)).2.2.2.2.2.1) ((Option.getD z__2.1 (Option.none, [], [], [], (0 : Int), Bool.false, (0 : Int), (0 : Int), [], Bool.false)).2.2.2.2.2.2.1) ((Option.getD z__2.1 (Option.none, [], [], [], (0 : Int), Bool.false, (0 : Int), (0 : Int), [], Bool.false)).2.2.2.2.2.2.2.1) ((Option.getD z__2.1 (Option.none, [], [], [], (0 : Int), Bool.false, (0 : Int), (0 : Int), [], Bool.false)).2.1) ((Option.getD z__2.1 (Option.none, [], [], [], (0 : Int), Bool.false, (0 : Int), (0 : Int), [], Bool.false)).2.2.1) ((Option.getD z__2.1 (Option.none, [], [], [], (0 : Int), Bool.false, (0 : Int), (0 : Int), [], Bool.false)).2.2.2.1) ((Option.getD z__2.1 (Option.none, [], [], [], (0 : Int), Bool.false, (0 : Int), (0 : Int), [], Bool.false)).2.2.2.2.2.2.2.2.1) with
  | some ((_, ((c0x0_5, c0x4_5, c0x5_5, c0x6_5, c0x7_5, _), r1_5, r2_5, r3_5, r4_5, _))) => some (Option.some (c0x0_5, r1_5, r2_5, r3_5, c0x4_5, c0x5_5, c0x6_5, c0x7_5, r4_5, Bool.false), (0 : Int), ())
  | none => none)))
 else none)
  | none => none))
 else none)
 else some (Option.none, (180 : Int), ()))
 else some (Option.none, (180 : Int), ())))
 else none)
noncomputable def run (d : Ds (List.map PM.ty ps)) : Option (Ds (muts ps ++ List.map PM.ty rs)) := match d with
  | (l0, degrees1, c2, _) => run' l0 degrees1 c2
theorem run_is : ∀ d, runF env 79 code [6, 7] ps rs d = run d := fun d => by kernel_rfl
theorem loops : LoopsOk env code := loopsOk_of (l := [[true, true, true, false, true, false, false], [true, true, true, true, true, true, false, true, false, false]]) (by kernel_rfl) (fun p hp => by
  simp only [List.mem_cons, List.not_mem_nil, or_false] at hp
  rcases hp with rfl | rfl
  · exact loopOk_lp (L := L6) (x := sub [true, true, true, false, true, false, false] code) (by kernel_rfl) (by simp [L6]) round6 ends6
  · exact loopOk_lp (L := L14) (x := sub [true, true, true, true, true, true, false, true, false, false] code) (by kernel_rfl) (by simp [L14]) round14 ends14
  )
noncomputable def pre (l0 : (Option (List Int))) (degrees1 : (List Int)) (c2 : (Int × ((List Int) × (List Bool)))) : Bool := (run' l0 degrees1 c2).isSome
noncomputable def fn (l0 : (Option (List Int))) (degrees1 : (List Int)) (c2 : (Int × ((List Int) × (List Bool)))) : D := match run' l0 degrees1 c2 with
  | some x => x
  | none => default
noncomputable def sig : Sig := ⟨ps, rs, fun d => match d with
  | (l0, degrees1, c2, _) => pre l0 degrees1 c2, fun d => match d with
  | (l0, degrees1, c2, _) => fn l0 degrees1 c2, false⟩
theorem run_fn (l0 : (Option (List Int))) (degrees1 : (List Int)) (c2 : (Int × ((List Int) × (List Bool)))) (h : pre l0 degrees1 c2 = true) : run' l0 degrees1 c2 = some (fn l0 degrees1 c2) := by
  unfold pre at h
  unfold fn
  cases e : run' l0 degrees1 c2 with
  | some x => rfl
  | none => rw [e] at h; cases h
theorem is_fn (l0 : (Option (List Int))) (degrees1 : (List Int)) (c2 : (Int × ((List Int) × (List Bool)))) {x : D} (h : run' l0 degrees1 c2 = some x) : pre l0 degrees1 c2 = true ∧ fn l0 degrees1 c2 = x := by
  unfold pre fn
  rw [h]
  exact ⟨rfl, rfl⟩
theorem sound {ρ : Obs} (hE : EnvOk Go.Proofs.Tryd.prog ρ env) : Sound Go.Proofs.Tryd.prog ρ 34 sig := sound_of (fn := Go.Proofs.Tryd.f34) (c := code) (res := [6, 7]) hE (by kernel_rfl) (by kernel_rfl) (by kernel_rfl) (by kernel_rfl) (by kernel_rfl) loops rfl (show 3 ≤ 79 by decide) (fun d hd => (run_is d).trans (by
  obtain ⟨l0, degrees1, c2, _⟩ := d
  exact run_fn l0 degrees1 c2 hd))
theorem enters : Enters Go.Proofs.Tryd.prog 34 := enters_of (fn := Go.Proofs.Tryd.f34) (by kernel_rfl) (by kernel_rfl) (by kernel_rfl)
theorem ok {ρ : Obs} (h : ∀ p ∈ ([(22, Shards.sig), (53, may.sig), (54, begun.sig), (55, mark.sig)] : List (FuncId × Sig)), Enters Go.Proofs.Tryd.prog p.1 ∧ Sound Go.Proofs.Tryd.prog ρ p.1 p.2) : Enters Go.Proofs.Tryd.prog 34 ∧ Sound Go.Proofs.Tryd.prog ρ 34 sig := ⟨enters, sound (envOk_of tabDOk h)⟩
theorem okR : Enters Go.Proofs.Tryd.prog 34 ∧ Sound Go.Proofs.Tryd.prog rho 34 sig := ok (fun p hp => by
  simp only [List.mem_cons, List.not_mem_nil, or_false] at hp
  rcases hp with rfl | rfl | rfl | rfl
  · exact Shards.okR
  · exact may.okR
  · exact begun.okR
  · exact mark.okR)
end FromE
namespace ReadE
abbrev ps : List PM := [.bx 93 [.v (.ptr Ly), .r 3 I64 false, .r 3 I64 false, .r 97 U64 false, .v I64, .v .bool, .v I64, .v I64, .r 3 I64 true], .val I64, .val (.list (.pair I64 (.list I64)))]
abbrev rs : List PM := [.val I64, .val I64]
noncomputable abbrev code : Code := (Go.Proofs.Tryd.f27.body.getD .skip)
abbrev s17 : Shape := ⟨[.box 0 0, .v I64, .un, .un, .un, .un, .un, .un, .v I64, .un, .un, .v I64, .v I64, .v I64, .un, .un, .un, .un, .un, .un, .un, .un, .un, .un, .un, .un, .un, .un, .un, .un, .un, .un, .un, .un, .un, .un, .un, .un, .un, .un, .un, .un, .un, .un, .un, .un, .un, .un, .un, .un, .un, .un, .un, .v (.list (.pair I64 (.list I64))), .v I64, .v I64, .un, .un, .un, .un, .un, .un, .un, .un, .un, .un, .un, .un, .un, .un, .un, .un, .un, .un, .un, .un, .un, .un, .un, .un, .un, .un, .un, .un, .un, .un, .v (.list I64), .v I64, .v I64, .un, .un, .un, .un, .un, .un, .un, .un, .un, .un, .un, .un, .un, .un, .un, .un, .un, .un, .un, .un, .un, .un, .un, .un, .un, .un, .un, .un, .un, .un, .un, .un, .un, .un, .un, .un, .un, .un, .un, .un, .un, .un, .un, .un], [.cells (93 : Go.TypeId) [.v (.ptr (.one (.list I64))), .row 1, .row 2, .row 3, .v I64, .v .bool, .v I64, .v I64, .row 4], .row (3 : Go.TypeId) I64, .row (3 : Go.TypeId) I64, .row (97 : Go.TypeId) (.int .u64), .row (3 : Go.TypeId) I64]⟩
abbrev x17 : List Way := [⟨(.ex 2), ⟨[(0, none), (1, none), (8, none), (53, none), (54, none), (55, none)]⟩, ⟨[.box 0 0, .v I64, .un, .un, .un, .un, .un, .un, .v I64, .un, .un, .un, .un, .un, .un, .un, .un, .un, .un, .un, .un, .un, .un, .un, .un, .un, .un, .un, .un, .un, .un, .un, .un, .un, .un, .un, .un, .un, .un, .un, .un, .un, .un, .un, .un, .un, .un, .un, .un, .un, .un, .un, .un, .v (.list (.pair I64 (.list I64))), .v I64, .v I64, .un, .un, .un, .un, .un, .un, .un, .un, .un, .un, .un, .un, .un, .un, .un, .un, .un, .un, .un, .un, .un, .un, .un, .un, .un, .un, .un, .un, .un, .un, .un, .un, .un, .un, .un, .un, .un, .un, .un, .un, .un, .un, .un, .un, .un, .un, .un, .un, .un, .un, .un, .un, .un, .un, .un, .un, .un, .un, .un, .un, .un, .un, .un, .un, .un, .un, .un, .un, .un, .un, .un, .un, .un, .un, .un, .un, .un], [.cells (93 : Go.TypeId) [.v (.ptr (.one (.list I64))), .row 1, .row 2, .row 3, .v I64, .v .bool, .v I64, .v I64, .row 4], .row (3 : Go.TypeId) I64, .row (3 : Go.TypeId) I64, .row (97 : Go.TypeId) (.int .u64), .row (3 : Go.TypeId) I64]⟩⟩]
abbrev V17 : Type := (Int × Int × Int × Int × Int × (List (Int × (List Int))) × Int × Int × (List Int) × Int × Int × Unit) × (((Option (List Int)) × Int × Bool × Int × Int × Unit) × (List Int) × (List Int) × (List Int) × (List Int) × Unit)
abbrev X17 : Type := (Int × Int × (List (Int × (List Int))) × Int × Int × Unit) × (((Option (List Int)) × Int × Bool × Int × Int × Unit) × (List Int) × (List Int) × (List Int) × (List Int) × Unit)
noncomputable def R17 {R : Type} (shard1 : Int) (falls8 : Int) (v11 : Int) (old12 : Int) (h13 : Int) (t53 : (List (Int × (List Int)))) (t54 : Int) (t55 : Int) (t86 : (List Int)) (t87 : Int) (t88 : Int) (c0x0 : (Option (List Int))) (c0x4 : Int) (c0x5 : Bool) (c0x6 : Int) (c0x7 : Int) (r1 : List Int) (r2 : List Int) (r3 : List Int) (r4 : List Int) (k : V17 → Option R) (kx : X17 → Option R) : Option R := (if Decidable.decide (t88 < t87) = Bool.true then (if (0 : Int) ≤ t88 then (if t88 < (↑(List.length t86) : Int) then (if (0 : Int) ≤ List.getD t86 (Int.toNat t88) (0 : Int) then (if List.getD t86 (Int.toNat t88) (0 : Int) < (↑(List.length r2) : Int) then (if Decidable.decide (List.getD r2 (Int.toNat (List.getD t86 (Int.toNat t88) (0 : Int))) (0 : Int) > h13) = Bool.true then (if Decidable.decide (List.getD r2 (Int.toNat (List.getD t86 (Int.toNat t88) (0 : Int))) (0 : Int) ≤ old12) = Bool.true then (if Decidable.decide (List.getD t86 (Int.toNat t88) (0 : Int) < v11) = Bool.false then (if Shard.pre c0x0 (List.getD t86 (Int.toNat t88) (0 : Int)) = Bool.true then (if ((Shard.fn c0x0 (List.getD t86 (Int.toNat t88) (0 : Int))).1 != shard1) = Bool.true then (if Shard.pre c0x0 (List.getD t86 (Int.toNat t88) (0 : Int)) = Bool.true then (if mark.pre c0x0 r1 r2 r3 c0x4 c0x5 c0x6 c0x7 r4 (Shard.fn c0x0 (List.getD t86 (Int.toNat t88) (0 : Int))).1 = Bool.true then (letZ (mark.fn c0x0 r1 r2 r3 c0x4 c0x5 c0x6 c0x7 r4 (Shard.fn c0x0 (List.getD t86 (Int.toNat t88) (0 : Int))).1) fun z__2 =>
 k ((shard1, falls8, v11, old12, h13, t53, t54, t55, t86, t87, IntKind.wrap .i64 (t88 + (1 : Int)), ()), ((z__2.1.1, z__2.1.2.2.2.2.1, z__2.1.2.2.2.2.2.1, z__2.1.2.2.2.2.2.2.1, z__2.1.2.2.2.2.2.2.2.1, ()), z__2.1.2.1, z__2.1.2.2.1, z__2.1.2.2.2.1, z__2.1.2.2.2.2.2.2.2.2.1, ())))
 else none)
 else none)
 else k ((shard1, falls8, v11, old12, h13, t53, t54, t55, t86, t87, IntKind.wrap .i64 (t88 + (1 : Int)), ()), ((c0x0, c0x4, c0x5, c0x6, c0x7, ()), r1, r2, r3, r4, ())))
 else none)
 else (if Shard.pre c0x0 (List.getD t86 (Int.toNat t88) (0 : Int)) = Bool.true then (if mark.pre c0x0 r1 r2 r3 c0x4 c0x5 c0x6 c0x7 r4 (Shard.fn c0x0 (List.getD t86 (Int.toNat t88) (0 : Int))).1 = Bool.true then (letZ (mark.fn c0x0 r1 r2 r3 c0x4 c0x5 c0x6 c0x7 r4 (Shard.fn c0x0 (List.getD t86 (Int.toNat t88) (0 : Int))).1) fun z__3 =>
 k ((shard1, falls8, v11, old12, h13, t53, t54, t55, t86, t87, IntKind.wrap .i64 (t88 + (1 : Int)), ()), ((z__3.1.1, z__3.1.2.2.2.2.1, z__3.1.2.2.2.2.2.1, z__3.1.2.2.2.2.2.2.1, z__3.1.2.2.2.2.2.2.2.1, ()), z__3.1.2.1, z__3.1.2.2.1, z__3.1.2.2.2.1, z__3.1.2.2.2.2.2.2.2.2.1, ())))
 else none)
 else none))
 else k ((shard1, falls8, v11, old12, h13, t53, t54, t55, t86, t87, IntKind.wrap .i64 (t88 + (1 : Int)), ()), ((c0x0, c0x4, c0x5, c0x6, c0x7, ()), r1, r2, r3, r4, ())))
 else k ((shard1, falls8, v11, old12, h13, t53, t54, t55, t86, t87, IntKind.wrap .i64 (t88 + (1 : Int)), ()), ((c0x0, c0x4, c0x5, c0x6, c0x7, ()), r1, r2, r3, r4, ())))
 else none)
 else none)
 else none)
 else none)
 else kx (((shard1, falls8, t53, t54, t55, ()), ((c0x0, c0x4, c0x5, c0x6, c0x7, ()), r1, r2, r3, r4, ()))))
noncomputable def rd17 : Rd (VO s17) (Xs x17) := fun v k kx => match v with
  | ((shard1, falls8, v11, old12, h13, t53, t54, t55, t86, t87, t88, _), ((c0x0, c0x4, c0x5, c0x6, c0x7, _), r1, r2, r3, r4, _)) => R17 shard1 falls8 v11 old12 h13 t53 t54 t55 t86 t87 t88 c0x0 c0x4 c0x5 c0x6 c0x7 r1 r2 r3 r4 k kx
noncomputable def F17 (shard1 : Int) (falls8 : Int) (v11 : Int) (old12 : Int) (h13 : Int) (t53 : (List (Int × (List Int)))) (t54 : Int) (t55 : Int) (t86 : (List Int)) (t87 : Int) (t88 : Int) (c0x0 : (Option (List Int))) (c0x4 : Int) (c0x5 : Bool) (c0x6 : Int) (c0x7 : Int) (r1 : List Int) (r2 : List Int) (r3 : List Int) (r4 : List Int) : Option X17 := finOf rd17 ((shard1, falls8, v11, old12, h13, t53, t54, t55, t86, t87, t88, ()), ((c0x0, c0x4, c0x5, c0x6, c0x7, ()), r1, r2, r3, r4, ()))
theorem F17_inv {shard1 : Int} {falls8 : Int} {v11 : Int} {old12 : Int} {h13 : Int} {t53 : (List (Int × (List Int)))} {t54 : Int} {t55 : Int} {t86 : (List Int)} {t87 : Int} (I : Int → (Option (List Int)) → Int → Bool → Int → Int → List Int → List Int → List Int → List Int → Prop) (μ : Int → (Option (List Int)) → Int → Bool → Int → Int → List Int → List Int → List Int → List Int → Nat) (Q : X17 → Prop) (h : ∀ (t88 : Int) (c0x0 : (Option (List Int))) (c0x4 : Int) (c0x5 : Bool) (c0x6 : Int) (c0x7 : Int) (r1 : List Int) (r2 : List Int) (r3 : List Int) (r4 : List Int), I t88 c0x0 c0x4 c0x5 c0x6 c0x7 r1 r2 r3 r4 → Led (fun (R : Type) (k : V17 → Option R) (kx : X17 → Option R) => R17 shard1 falls8 v11 old12 h13 t53 t54 t55 t86 t87 t88 c0x0 c0x4 c0x5 c0x6 c0x7 r1 r2 r3 r4 k kx) (fun v => ∃ (t88' : Int) (c0x0' : (Option (List Int))) (c0x4' : Int) (c0x5' : Bool) (c0x6' : Int) (c0x7' : Int) (r1' : List Int) (r2' : List Int) (r3' : List Int) (r4' : List Int), v = ((shard1, falls8, v11, old12, h13, t53, t54, t55, t86, t87, t88', ()), ((c0x0', c0x4', c0x5', c0x6', c0x7', ()), r1', r2', r3', r4', ())) ∧ I t88' c0x0' c0x4' c0x5' c0x6' c0x7' r1' r2' r3' r4' ∧ μ t88' c0x0' c0x4' c0x5' c0x6' c0x7' r1' r2' r3' r4' < μ t88 c0x0 c0x4 c0x5 c0x6 c0x7 r1 r2 r3 r4) Q) : ∀ (t88 : Int) (c0x0 : (Option (List Int))) (c0x4 : Int) (c0x5 : Bool) (c0x6 : Int) (c0x7 : Int) (r1 : List Int) (r2 : List Int) (r3 : List Int) (r4 : List Int), I t88 c0x0 c0x4 c0x5 c0x6 c0x7 r1 r2 r3 r4 → ∃ z, F17 shard1 falls8 v11 old12 h13 t53 t54 t55 t86 t87 t88 c0x0 c0x4 c0x5 c0x6 c0x7 r1 r2 r3 r4 = some z ∧ Q z := fun t88 c0x0 c0x4 c0x5 c0x6 c0x7 r1 r2 r3 r4 hi => by
  refine finOf_inv (V := V17) (X := X17) (rd := rd17) (fun v => ∃ (t88' : Int) (c0x0' : (Option (List Int))) (c0x4' : Int) (c0x5' : Bool) (c0x6' : Int) (c0x7' : Int) (r1' : List Int) (r2' : List Int) (r3' : List Int) (r4' : List Int), v = ((shard1, falls8, v11, old12, h13, t53, t54, t55, t86, t87, t88', ()), ((c0x0', c0x4', c0x5', c0x6', c0x7', ()), r1', r2', r3', r4', ())) ∧ I t88' c0x0' c0x4' c0x5' c0x6' c0x7' r1' r2' r3' r4') (fun v => match v with
    | ((shard1, falls8, v11, old12, h13, t53, t54, t55, t86, t87, t88, _), ((c0x0, c0x4, c0x5, c0x6, c0x7, _), r1, r2, r3, r4, _)) => μ t88 c0x0 c0x4 c0x5 c0x6 c0x7 r1 r2 r3 r4) Q (fun v hv => ?_) ((shard1, falls8, v11, old12, h13, t53, t54, t55, t86, t87, t88, ()), ((c0x0, c0x4, c0x5, c0x6, c0x7, ()), r1, r2, r3, r4, ())) ⟨t88, c0x0, c0x4, c0x5, c0x6, c0x7, r1, r2, r3, r4, rfl, hi⟩
  obtain ⟨t88, c0x0, c0x4, c0x5, c0x6, c0x7, r1, r2, r3, r4, rfl, hi⟩ := hv
  refine led_mono (h t88 c0x0 c0x4 c0x5 c0x6 c0x7 r1 r2 r3 r4 hi) ?_ (fun _ q => q)
  rintro v ⟨t88', c0x0', c0x4', c0x5', c0x6', c0x7', r1', r2', r3', r4', rfl, h1, h2⟩
  exact ⟨⟨t88', c0x0', c0x4', c0x5', c0x6', c0x7', r1', r2', r3', r4', rfl, h1⟩, h2⟩
noncomputable def L17 : Lp := ⟨17, ⟨[(0, none), (1, none), (8, none), (11, none), (12, none), (13, none), (53, none), (54, none), (55, none), (86, none), (87, none), (88, none)]⟩, s17, x17, fun v => match v with
  | ((shard1, falls8, v11, old12, h13, t53, t54, t55, t86, t87, t88, _), ((c0x0, c0x4, c0x5, c0x6, c0x7, _), r1, r2, r3, r4, _)) => F17 shard1 falls8 v11 old12 h13 t53 t54 t55 t86 t87 t88 c0x0 c0x4 c0x5 c0x6 c0x7 r1 r2 r3 r4⟩
theorem ends17 : Ends L17 rd17 := ends_fin (fun v => by
  obtain ⟨⟨shard1, falls8, v11, old12, h13, t53, t54, t55, t86, t87, t88, _⟩, ⟨⟨c0x0, c0x4, c0x5, c0x6, c0x7, _⟩, r1, r2, r3, r4, _⟩⟩ := v
  rfl)
abbrev s9 : Shape := ⟨[.box 0 0, .v I64, .un, .un, .un, .un, .un, .un, .v I64, .un, .un, .un, .un, .un, .un, .un, .un, .un, .un, .un, .un, .un, .un, .un, .un, .un, .un, .un, .un, .un, .un, .un, .un, .un, .un, .un, .un, .un, .un, .un, .un, .un, .un, .un, .un, .un, .un, .un, .un, .un, .un, .un, .un, .v (.list (.pair I64 (.list I64))), .v I64, .v I64, .un, .un, .un, .un, .un, .un, .un, .un, .un, .un, .un, .un, .un, .un, .un, .un, .un, .un, .un, .un, .un, .un, .un, .un, .un, .un, .un, .un, .un, .un, .un, .un, .un, .un, .un, .un, .un, .un, .un, .un, .un, .un, .un, .un, .un, .un, .un, .un, .un, .un, .un, .un, .un, .un, .un, .un, .un, .un, .un, .un, .un, .un, .un, .un, .un, .un, .un, .un, .un, .un, .un, .un, .un, .un, .un, .un, .un], [.cells (93 : Go.TypeId) [.v (.ptr (.one (.list I64))), .row 1, .row 2, .row 3, .v I64, .v .bool, .v I64, .v I64, .row 4], .row (3 : Go.TypeId) I64, .row (3 : Go.TypeId) I64, .row (97 : Go.TypeId) (.int .u64), .row (3 : Go.TypeId) I64]⟩
abbrev x9 : List Way := [⟨(.ex 0), ⟨[(8, none)]⟩, ⟨[.un, .un, .un, .un, .un, .un, .un, .un, .v I64, .un, .un, .un, .un, .un, .un, .un, .un, .un, .un, .un, .un, .un, .un, .un, .un, .un, .un, .un, .un, .un, .un, .un, .un, .un, .un, .un, .un, .un, .un, .un, .un, .un, .un, .un, .un, .un, .un, .un, .un, .un, .un, .un, .un, .un, .un, .un, .un, .un, .un, .un, .un, .un, .un, .un, .un, .un, .un, .un, .un, .un, .un, .un, .un, .un, .un, .un, .un, .un, .un, .un, .un, .un, .un, .un, .un, .un, .un, .un, .un, .un, .un, .un, .un, .un, .un, .un, .un, .un, .un, .un, .un, .un, .un, .un, .un, .un, .un, .un, .un, .un, .un, .un, .un, .un, .un, .un, .un, .un, .un, .un, .un, .un, .un, .un, .un, .un, .un, .un, .un, .un, .un, .un, .un], [.cells (93 : Go.TypeId) [.v (.ptr (.one (.list I64))), .row 1, .row 2, .row 3, .v I64, .v .bool, .v I64, .v I64, .row 4], .row (3 : Go.TypeId) I64, .row (3 : Go.TypeId) I64, .row (97 : Go.TypeId) (.int .u64), .row (3 : Go.TypeId) I64]⟩⟩]
abbrev V9 : Type := (Int × Int × (List (Int × (List Int))) × Int × Int × Unit) × (((Option (List Int)) × Int × Bool × Int × Int × Unit) × (List Int) × (List Int) × (List Int) × (List Int) × Unit)
abbrev X9 : Type := (Int × Unit) × (((Option (List Int)) × Int × Bool × Int × Int × Unit) × (List Int) × (List Int) × (List Int) × (List Int) × Unit)
noncomputable def R9 {R : Type} (shard1 : Int) (falls8 : Int) (t53 : (List (Int × (List Int)))) (t54 : Int) (t55 : Int) (c0x0 : (Option (List Int))) (c0x4 : Int) (c0x5 : Bool) (c0x6 : Int) (c0x7 : Int) (r1 : List Int) (r2 : List Int) (r3 : List Int) (r4 : List Int) (k : V9 → Option R) (kx : X9 → Option R) : Option R := (if Decidable.decide (t55 < t54) = Bool.true then (if (0 : Int) ≤ t55 then (if t55 < (↑(List.length t53) : Int) then (bothK (if (0 : Int) ≤ (List.getD t53 (Int.toNat t55) ((0 : Int), [])).1 then (if (List.getD t53 (Int.toNat t55) ((0 : Int), [])).1 < (↑(List.length r2) : Int) then (bothK (if hE.pre c0x0 r1 r2 r3 c0x4 c0x5 c0x6 c0x7 r4 (List.getD t53 (Int.toNat t55) ((0 : Int), [])).1 (List.getD t53 (Int.toNat t55) ((0 : Int), [])).2 = Bool.true then (letZ (hE.fn c0x0 r1 r2 r3 c0x4 c0x5 c0x6 c0x7 r4 (List.getD t53 (Int.toNat t55) ((0 : Int), [])).1 (List.getD t53 (Int.toNat t55) ((0 : Int), [])).2) fun z__1 =>
 (if Decidable.decide (z__1.2.1 ≥ List.getD r2 (Int.toNat (List.getD t53 (Int.toNat t55) ((0 : Int), [])).1) (0 : Int)) = Bool.true then k ((shard1, falls8, t53, t54, IntKind.wrap .i64 (t55 + (1 : Int)), ()), ((z__1.1.1, z__1.1.2.2.2.2.1, z__1.1.2.2.2.2.2.1, z__1.1.2.2.2.2.2.2.1, z__1.1.2.2.2.2.2.2.2.1, ()), z__1.1.2.1, z__1.1.2.2.1, z__1.1.2.2.2.1, z__1.1.2.2.2.2.2.2.2.2.1, ()))
 else (if (0 : Int) ≤ (List.getD t53 (Int.toNat t55) ((0 : Int), [])).1 then (if (List.getD t53 (Int.toNat t55) ((0 : Int), [])).1 < (↑(List.length z__1.1.2.2.1) : Int) then (if Int.toNat (List.getD t53 (Int.toNat t55) ((0 : Int), [])).1 < List.length z__1.1.2.2.1 then (match F17 (shard1) (IntKind.wrap .i64 (falls8 + (1 : Int))) ((List.getD t53 (Int.toNat t55) ((0 : Int), [])).1) (List.getD r2 (Int.toNat (List.getD t53 (Int.toNat t55) ((0 : Int), [])).1) (0 : Int)) (z__1.2.1) (t53) (t54) (t55) ((List.getD t53 (Int.toNat t55) ((0 : Int), [])).2) ((↑(List.length (List.getD t53 (Int.toNat t55) ((0 : Int), [])).2) : Int)) ((0 : Int)) (z__1.1.1) (z__1.1.2.2.2.2.1) (z__1.1.2.2.2.2.2.1) (z__1.1.2.2.2.2.2.2.1) (z__1.1.2.2.2.2.2.2.2.1) (z__1.1.2.1) (List.set z__1.1.2.2.1 (Int.toNat (List.getD t53 (Int.toNat t55) ((0 : Int), [])).1) z__1.2.1) (z__1.1.2.2.2.1) (z__1.1.2.2.2.2.2.2.2.2.1) with
  | some (((shard1_5, falls8_5, t53_5, t54_5, t55_5, _), ((c0x0_5, c0x4_5, c0x5_5, c0x6_5, c0x7_5, _), r1_5, r2_5, r3_5, r4_5, _))) => k ((shard1_5, falls8_5, t53_5, t54_5, IntKind.wrap .i64 (t55_5 + (1 : Int)), ()), ((c0x0_5, c0x4_5, c0x5_5, c0x6_5, c0x7_5, ()), r1_5, r2_5, r3_5, r4_5, ()))
  | none => none)
 else none)
 else none)
 else none)))
 else none)
 (if hE.pre c0x0 r1 r2 r3 c0x4 c0x5 c0x6 c0x7 r4 (List.getD t53 (Int.toNat t55) ((0 : Int), [])).1 (List.getD t53 (Int.toNat t55) ((0 : Int), [])).2 = Bool.true then (letZ (hE.fn c0x0 r1 r2 r3 c0x4 c0x5 c0x6 c0x7 r4 (List.getD t53 (Int.toNat t55) ((0 : Int), [])).1 (List.getD t53 (Int.toNat t55) ((0 : Int), [])).2) fun z__5 =>
 (if Decidable.decide (z__5.2.1 ≥ List.getD z__5.1.2.2.1 (Int.toNat (List.getD t53 (Int.toNat t55) ((0 : Int), [])).1) (0 : Int)) = Bool.true then k ((shard1, falls8, t53, t54, IntKind.wrap .i64 (t55 + (1 : Int)), ()), ((z__5.1.1, z__5.1.2.2.2.2.1, z__5.1.2.2.2.2.2.1, z__5.1.2.2.2.2.2.2.1, z__5.1.2.2.2.2.2.2.2.1, ()), z__5.1.2.1, z__5.1.2.2.1, z__5.1.2.2.2.1, z__5.1.2.2.2.2.2.2.2.2.1, ()))
 else (if (0 : Int) ≤ (List.getD t53 (Int.toNat t55) ((0 : Int), [])).1 then (if (List.getD t53 (Int.toNat t55) ((0 : Int), [])).1 < (↑(List.length z__5.1.2.2.1) : Int) then (if Int.toNat (List.getD t53 (Int.toNat t55) ((0 : Int), [])).1 < List.length z__5.1.2.2.1 then (match F17 (shard1) (IntKind.wrap .i64 (falls8 + (1 : Int))) ((List.getD t53 (Int.toNat t55) ((0 : Int), [])).1) (List.getD z__5.1.2.2.1 (Int.toNat (List.getD t53 (Int.toNat t55) ((0 : Int), [])).1) (0 : Int)) (z__5.2.1) (t53) (t54) (t55) ((List.getD t53 (Int.toNat t55) ((0 : Int), [])).2) ((↑(List.length (List.getD t53 (Int.toNat t55) ((0 : Int), [])).2) : Int)) ((0 : Int)) (z__5.1.1) (z__5.1.2.2.2.2.1) (z__5.1.2.2.2.2.2.1) (z__5.1.2.2.2.2.2.2.1) (z__5.1.2.2.2.2.2.2.2.1) (z__5.1.2.1) (List.set z__5.1.2.2.1 (Int.toNat (List.getD t53 (Int.toNat t55) ((0 : Int), [])).1) z__5.2.1) (z__5.1.2.2.2.1) (z__5.1.2.2.2.2.2.2.2.2.1) with
  | some (((shard1_7, falls8_7, t53_7, t54_7, t55_7, _), ((c0x0_7, c0x4_7, c0x5_7, c0x6_7, c0x7_7, _), r1_7, r2_7, r3_7, r4_7, _))) => k ((shard1_7, falls8_7, t53_7, t54_7, IntKind.wrap .i64 (t55_7 + (1 : Int)), ()), ((c0x0_7, c0x4_7, c0x5_7, c0x6_7, c0x7_7, ()), r1_7, r2_7, r3_7, r4_7, ()))
  | none => none)
 else none)
 else none)
 else none)))
 else none))
 else none)
 else none)
 (if hE.pre c0x0 r1 r2 r3 c0x4 c0x5 c0x6 c0x7 r4 (List.getD t53 (Int.toNat t55) ((0 : Int), [])).1 (List.getD t53 (Int.toNat t55) ((0 : Int), [])).2 = Bool.true then (letZ (hE.fn c0x0 r1 r2 r3 c0x4 c0x5 c0x6 c0x7 r4 (List.getD t53 (Int.toNat t55) ((0 : Int), [])).1 (List.getD t53 (Int.toNat t55) ((0 : Int), [])).2) fun z__7 =>
 (if (0 : Int) ≤ (List.getD t53 (Int.toNat t55) ((0 : Int), [])).1 then (if (List.getD t53 (Int.toNat t55) ((0 : Int), [])).1 < (↑(List.length z__7.1.2.2.1) : Int) then (if Decidable.decide (z__7.2.1 ≥ List.getD z__7.1.2.2.1 (Int.toNat (List.getD t53 (Int.toNat t55) ((0 : Int), [])).1) (0 : Int)) = Bool.true then k ((shard1, falls8, t53, t54, IntKind.wrap .i64 (t55 + (1 : Int)), ()), ((z__7.1.1, z__7.1.2.2.2.2.1, z__7.1.2.2.2.2.2.1, z__7.1.2.2.2.2.2.2.1, z__7.1.2.2.2.2.2.2.2.1, ()), z__7.1.2.1, z__7.1.2.2.1, z__7.1.2.2.2.1, z__7.1.2.2.2.2.2.2.2.2.1, ()))
 else (if (0 : Int) ≤ (List.getD t53 (Int.toNat t55) ((0 : Int), [])).1 then (if (List.getD t53 (Int.toNat t55) ((0 : Int), [])).1 < (↑(List.length z__7.1.2.2.1) : Int) then (if Int.toNat (List.getD t53 (Int.toNat t55) ((0 : Int), [])).1 < List.length z__7.1.2.2.1 then (match F17 (shard1) (IntKind.wrap .i64 (falls8 + (1 : Int))) ((List.getD t53 (Int.toNat t55) ((0 : Int), [])).1) (List.getD z__7.1.2.2.1 (Int.toNat (List.getD t53 (Int.toNat t55) ((0 : Int), [])).1) (0 : Int)) (z__7.2.1) (t53) (t54) (t55) ((List.getD t53 (Int.toNat t55) ((0 : Int), [])).2) ((↑(List.length (List.getD t53 (Int.toNat t55) ((0 : Int), [])).2) : Int)) ((0 : Int)) (z__7.1.1) (z__7.1.2.2.2.2.1) (z__7.1.2.2.2.2.2.1) (z__7.1.2.2.2.2.2.2.1) (z__7.1.2.2.2.2.2.2.2.1) (z__7.1.2.1) (List.set z__7.1.2.2.1 (Int.toNat (List.getD t53 (Int.toNat t55) ((0 : Int), [])).1) z__7.2.1) (z__7.1.2.2.2.1) (z__7.1.2.2.2.2.2.2.2.2.1) with
  | some (((shard1_9, falls8_9, t53_9, t54_9, t55_9, _), ((c0x0_9, c0x4_9, c0x5_9, c0x6_9, c0x7_9, _), r1_9, r2_9, r3_9, r4_9, _))) => k ((shard1_9, falls8_9, t53_9, t54_9, IntKind.wrap .i64 (t55_9 + (1 : Int)), ()), ((c0x0_9, c0x4_9, c0x5_9, c0x6_9, c0x7_9, ()), r1_9, r2_9, r3_9, r4_9, ()))
  | none => none)
 else none)
 else none)
 else none))
 else none)
 else none))
 else none))
 else none)
 else none)
 else kx (((falls8, ()), ((c0x0, c0x4, c0x5, c0x6, c0x7, ()), r1, r2, r3, r4, ()))))
noncomputable def rd9 : Rd (VO s9) (Xs x9) := fun v k kx => match v with
  | ((shard1, falls8, t53, t54, t55, _), ((c0x0, c0x4, c0x5, c0x6, c0x7, _), r1, r2, r3, r4, _)) => R9 shard1 falls8 t53 t54 t55 c0x0 c0x4 c0x5 c0x6 c0x7 r1 r2 r3 r4 k kx
noncomputable def F9 (shard1 : Int) (falls8 : Int) (t53 : (List (Int × (List Int)))) (t54 : Int) (t55 : Int) (c0x0 : (Option (List Int))) (c0x4 : Int) (c0x5 : Bool) (c0x6 : Int) (c0x7 : Int) (r1 : List Int) (r2 : List Int) (r3 : List Int) (r4 : List Int) : Option X9 := finOf rd9 ((shard1, falls8, t53, t54, t55, ()), ((c0x0, c0x4, c0x5, c0x6, c0x7, ()), r1, r2, r3, r4, ()))
theorem F9_inv {shard1 : Int} {t53 : (List (Int × (List Int)))} {t54 : Int} (I : Int → Int → (Option (List Int)) → Int → Bool → Int → Int → List Int → List Int → List Int → List Int → Prop) (μ : Int → Int → (Option (List Int)) → Int → Bool → Int → Int → List Int → List Int → List Int → List Int → Nat) (Q : X9 → Prop) (h : ∀ (falls8 : Int) (t55 : Int) (c0x0 : (Option (List Int))) (c0x4 : Int) (c0x5 : Bool) (c0x6 : Int) (c0x7 : Int) (r1 : List Int) (r2 : List Int) (r3 : List Int) (r4 : List Int), I falls8 t55 c0x0 c0x4 c0x5 c0x6 c0x7 r1 r2 r3 r4 → Led (fun (R : Type) (k : V9 → Option R) (kx : X9 → Option R) => R9 shard1 falls8 t53 t54 t55 c0x0 c0x4 c0x5 c0x6 c0x7 r1 r2 r3 r4 k kx) (fun v => ∃ (falls8' : Int) (t55' : Int) (c0x0' : (Option (List Int))) (c0x4' : Int) (c0x5' : Bool) (c0x6' : Int) (c0x7' : Int) (r1' : List Int) (r2' : List Int) (r3' : List Int) (r4' : List Int), v = ((shard1, falls8', t53, t54, t55', ()), ((c0x0', c0x4', c0x5', c0x6', c0x7', ()), r1', r2', r3', r4', ())) ∧ I falls8' t55' c0x0' c0x4' c0x5' c0x6' c0x7' r1' r2' r3' r4' ∧ μ falls8' t55' c0x0' c0x4' c0x5' c0x6' c0x7' r1' r2' r3' r4' < μ falls8 t55 c0x0 c0x4 c0x5 c0x6 c0x7 r1 r2 r3 r4) Q) : ∀ (falls8 : Int) (t55 : Int) (c0x0 : (Option (List Int))) (c0x4 : Int) (c0x5 : Bool) (c0x6 : Int) (c0x7 : Int) (r1 : List Int) (r2 : List Int) (r3 : List Int) (r4 : List Int), I falls8 t55 c0x0 c0x4 c0x5 c0x6 c0x7 r1 r2 r3 r4 → ∃ z, F9 shard1 falls8 t53 t54 t55 c0x0 c0x4 c0x5 c0x6 c0x7 r1 r2 r3 r4 = some z ∧ Q z := fun falls8 t55 c0x0 c0x4 c0x5 c0x6 c0x7 r1 r2 r3 r4 hi => by
  refine finOf_inv (V := V9) (X := X9) (rd := rd9) (fun v => ∃ (falls8' : Int) (t55' : Int) (c0x0' : (Option (List Int))) (c0x4' : Int) (c0x5' : Bool) (c0x6' : Int) (c0x7' : Int) (r1' : List Int) (r2' : List Int) (r3' : List Int) (r4' : List Int), v = ((shard1, falls8', t53, t54, t55', ()), ((c0x0', c0x4', c0x5', c0x6', c0x7', ()), r1', r2', r3', r4', ())) ∧ I falls8' t55' c0x0' c0x4' c0x5' c0x6' c0x7' r1' r2' r3' r4') (fun v => match v with
    | ((shard1, falls8, t53, t54, t55, _), ((c0x0, c0x4, c0x5, c0x6, c0x7, _), r1, r2, r3, r4, _)) => μ falls8 t55 c0x0 c0x4 c0x5 c0x6 c0x7 r1 r2 r3 r4) Q (fun v hv => ?_) ((shard1, falls8, t53, t54, t55, ()), ((c0x0, c0x4, c0x5, c0x6, c0x7, ()), r1, r2, r3, r4, ())) ⟨falls8, t55, c0x0, c0x4, c0x5, c0x6, c0x7, r1, r2, r3, r4, rfl, hi⟩
  obtain ⟨falls8, t55, c0x0, c0x4, c0x5, c0x6, c0x7, r1, r2, r3, r4, rfl, hi⟩ := hv
  refine led_mono (h falls8 t55 c0x0 c0x4 c0x5 c0x6 c0x7 r1 r2 r3 r4 hi) ?_ (fun _ q => q)
  rintro v ⟨falls8', t55', c0x0', c0x4', c0x5', c0x6', c0x7', r1', r2', r3', r4', rfl, h1, h2⟩
  exact ⟨⟨falls8', t55', c0x0', c0x4', c0x5', c0x6', c0x7', r1', r2', r3', r4', rfl, h1⟩, h2⟩
noncomputable def L9 : Lp := ⟨9, ⟨[(0, none), (1, none), (8, none), (53, none), (54, none), (55, none)]⟩, s9, x9, fun v => match v with
  | ((shard1, falls8, t53, t54, t55, _), ((c0x0, c0x4, c0x5, c0x6, c0x7, _), r1, r2, r3, r4, _)) => F9 shard1 falls8 t53 t54 t55 c0x0 c0x4 c0x5 c0x6 c0x7 r1 r2 r3 r4⟩
theorem ends9 : Ends L9 rd9 := ends_fin (fun v => by
  obtain ⟨⟨shard1, falls8, t53, t54, t55, _⟩, ⟨⟨c0x0, c0x4, c0x5, c0x6, c0x7, _⟩, r1, r2, r3, r4, _⟩⟩ := v
  rfl)
noncomputable def env : Env := mkEnvK tabD [(32, Shard.sig), (55, mark.sig), (59, fits.sig), (60, hE.sig)] 5 (fixL ps) [(5, [0, 1, 2, 3, 4, 5, 6, 7, 8, 9, 10, 11, 12, 13])] [(12, (.step 0 (.step 1 (.step 2 (.step 4 (.step 7 (.step 8 (.step 9 (.step 10 (.alt 3 (.step 5 (.alt 6 (.step 11 (.step 12 (.step 13 .nil))) (.step 11 (.step 6 (.step 12 (.step 13 .nil)))))) (.step 11 (.step 3 (.step 5 (.step 6 (.step 12 (.step 13 .nil))))))))))))))))] [L17, L9]
theorem round17 : RoundIs env (sub [true, true, true, true, true, true, false, true, false, false, true, true, false, false, true, true, true, true, true, true, true, false, false] code) L17 rd17 := fun R v k kx => by kernel_rfl
theorem round9 : RoundIs env (sub [true, true, true, true, true, true, false, true, false, false] code) L9 rd9 := fun R v k kx => by kernel_rfl
abbrev D : Type := (((Option (List Int)) × ((List Int) × ((List Int) × ((List Int) × (Int × (Bool × (Int × (Int × ((List Int) × Bool))))))))) × Int × Int × Unit)
noncomputable def run' (e0_0 : (Option (List Int))) (e0_1 : (List Int)) (e0_2 : (List Int)) (e0_3 : (List Int)) (e0_4 : Int) (e0_5 : Bool) (e0_6 : Int) (e0_7 : Int) (e0_8 : (List Int)) (shard1 : Int) (lists2 : (List (Int × (List Int)))) : Option D := (if Decidable.decide (shard1 < (0 : Int)) = Bool.false then (if (shard1 != e0_7) = Bool.true then some ((e0_0, e0_1, e0_2, e0_3, e0_4, e0_5, e0_6, e0_7, e0_8, Bool.false), (0 : Int), (170 : Int), ())
 else (if fits.pre e0_0 e0_1 e0_2 e0_3 e0_4 e0_5 e0_6 e0_7 e0_8 shard1 lists2 = Bool.true then (letZ (fits.fn e0_0 e0_1 e0_2 e0_3 e0_4 e0_5 e0_6 e0_7 e0_8 shard1 lists2) fun z_ =>
 (if (!z_.2.1) = Bool.true then some ((z_.1.1, z_.1.2.1, z_.1.2.2.1, z_.1.2.2.2.1, z_.1.2.2.2.2.1, z_.1.2.2.2.2.2.1, z_.1.2.2.2.2.2.2.1, z_.1.2.2.2.2.2.2.2.1, z_.1.2.2.2.2.2.2.2.2.1, Bool.false), (0 : Int), (171 : Int), ())
 else (if (0 : Int) ≤ IntKind.wrap .i64 (Int.tdiv shard1 (64 : Int)) then (if IntKind.wrap .i64 (Int.tdiv shard1 (64 : Int)) < (↑(List.length z_.1.2.2.2.1) : Int) then (if (0 : Int) ≤ Int.tmod shard1 (64 : Int) then (if (0 : Int) ≤ IntKind.wrap .i64 (Int.tdiv shard1 (64 : Int)) then (if IntKind.wrap .i64 (Int.tdiv shard1 (64 : Int)) < (↑(List.length z_.1.2.2.2.1) : Int) then (if Int.toNat (IntKind.wrap .i64 (Int.tdiv shard1 (64 : Int))) < List.length z_.1.2.2.2.1 then (match F9 (shard1) ((0 : Int)) (lists2) ((↑(List.length lists2) : Int)) ((0 : Int)) (z_.1.1) (z_.1.2.2.2.2.1) (z_.1.2.2.2.2.2.1) (IntKind.wrap .i64 (shard1 + (1 : Int))) ((-1 : Int)) (z_.1.2.1) (z_.1.2.2.1) (List.set z_.1.2.2.2.1 (Int.toNat (IntKind.wrap .i64 (Int.tdiv shard1 (64 : Int)))) (bitsZ Go.BinOp.andNot Go.IntKind.u64 (List.getD z_.1.2.2.2.1 (Int.toNat (IntKind.wrap .i64 (Int.tdiv shard1 (64 : Int)))) (0 : Int)) (Go.IntKind.wrap Go.IntKind.u64 ((1 : Int) * (2 : Int) ^ Min.min (Int.toNat (Int.tmod shard1 (64 : Int))) (64 : Nat))))) (z_.1.2.2.2.2.2.2.2.2.1) with
  | some (((falls8_10, _), ((c0x0_10, c0x4_10, c0x5_10, c0x6_10, c0x7_10, _), r1_10, r2_10, r3_10, r4_10, _))) => some ((c0x0_10, r1_10, r2_10, r3_10, c0x4_10, c0x5_10, c0x6_10, c0x7_10, r4_10, Bool.false), falls8_10, (0 : Int), ())
  | none => none)
 else none)
 else none)
 else none)
 else none)
 else none)
 else none)))
 else none))
 else some ((e0_0, e0_1, e0_2, e0_3, e0_4, e0_5, e0_6, e0_7, e0_8, Bool.false), (0 : Int), (170 : Int), ()))
noncomputable def run (d : Ds (List.map PM.ty ps)) : Option (Ds (muts ps ++ List.map PM.ty rs)) := match d with
  | ((e0_0, e0_1, e0_2, e0_3, e0_4, e0_5, e0_6, e0_7, e0_8, _), shard1, lists2, _) => run' e0_0 e0_1 e0_2 e0_3 e0_4 e0_5 e0_6 e0_7 e0_8 shard1 lists2
theorem run_is : ∀ d, runF env 133 code [6, 7] ps rs d = run d := fun d => by kernel_rfl
theorem loops : LoopsOk env code := loopsOk_of (l := [[true, true, true, true, true, true, false, true, false, false], [true, true, true, true, true, true, false, true, false, false, true, true, false, false, true, true, true, true, true, true, true, false, false]]) (by kernel_rfl) (fun p hp => by
  simp only [List.mem_cons, List.not_mem_nil, or_false] at hp
  rcases hp with rfl | rfl
  · exact loopOk_lpK (L := L9) (x := sub [true, true, true, true, true, true, false, true, false, false] code) (by kernel_rfl) (by simp [L9]) round9 ends9
  · exact loopOk_lpK (L := L17) (x := sub [true, true, true, true, true, true, false, true, false, false, true, true, false, false, true, true, true, true, true, true, true, false, false] code) (by kernel_rfl) (by simp [L17]) round17 ends17
  )
noncomputable def pre (e0_0 : (Option (List Int))) (e0_1 : (List Int)) (e0_2 : (List Int)) (e0_3 : (List Int)) (e0_4 : Int) (e0_5 : Bool) (e0_6 : Int) (e0_7 : Int) (e0_8 : (List Int)) (shard1 : Int) (lists2 : (List (Int × (List Int)))) : Bool := (run' e0_0 e0_1 e0_2 e0_3 e0_4 e0_5 e0_6 e0_7 e0_8 shard1 lists2).isSome
noncomputable def fn (e0_0 : (Option (List Int))) (e0_1 : (List Int)) (e0_2 : (List Int)) (e0_3 : (List Int)) (e0_4 : Int) (e0_5 : Bool) (e0_6 : Int) (e0_7 : Int) (e0_8 : (List Int)) (shard1 : Int) (lists2 : (List (Int × (List Int)))) : D := match run' e0_0 e0_1 e0_2 e0_3 e0_4 e0_5 e0_6 e0_7 e0_8 shard1 lists2 with
  | some x => x
  | none => default
noncomputable def sig : Sig := ⟨ps, rs, fun d => match d with
  | ((e0_0, e0_1, e0_2, e0_3, e0_4, e0_5, e0_6, e0_7, e0_8, _), shard1, lists2, _) => pre e0_0 e0_1 e0_2 e0_3 e0_4 e0_5 e0_6 e0_7 e0_8 shard1 lists2, fun d => match d with
  | ((e0_0, e0_1, e0_2, e0_3, e0_4, e0_5, e0_6, e0_7, e0_8, _), shard1, lists2, _) => fn e0_0 e0_1 e0_2 e0_3 e0_4 e0_5 e0_6 e0_7 e0_8 shard1 lists2, false⟩
theorem run_fn (e0_0 : (Option (List Int))) (e0_1 : (List Int)) (e0_2 : (List Int)) (e0_3 : (List Int)) (e0_4 : Int) (e0_5 : Bool) (e0_6 : Int) (e0_7 : Int) (e0_8 : (List Int)) (shard1 : Int) (lists2 : (List (Int × (List Int)))) (h : pre e0_0 e0_1 e0_2 e0_3 e0_4 e0_5 e0_6 e0_7 e0_8 shard1 lists2 = true) : run' e0_0 e0_1 e0_2 e0_3 e0_4 e0_5 e0_6 e0_7 e0_8 shard1 lists2 = some (fn e0_0 e0_1 e0_2 e0_3 e0_4 e0_5 e0_6 e0_7 e0_8 shard1 lists2) := by
  unfold pre at h
  unfold fn
  cases e : run' e0_0 e0_1 e0_2 e0_3 e0_4 e0_5 e0_6 e0_7 e0_8 shard1 lists2 with
  | some x => rfl
  | none => rw [e] at h; cases h
theorem is_fn (e0_0 : (Option (List Int))) (e0_1 : (List Int)) (e0_2 : (List Int)) (e0_3 : (List Int)) (e0_4 : Int) (e0_5 : Bool) (e0_6 : Int) (e0_7 : Int) (e0_8 : (List Int)) (shard1 : Int) (lists2 : (List (Int × (List Int)))) {x : D} (h : run' e0_0 e0_1 e0_2 e0_3 e0_4 e0_5 e0_6 e0_7 e0_8 shard1 lists2 = some x) : pre e0_0 e0_1 e0_2 e0_3 e0_4 e0_5 e0_6 e0_7 e0_8 shard1 lists2 = true ∧ fn e0_0 e0_1 e0_2 e0_3 e0_4 e0_5 e0_6 e0_7 e0_8 shard1 lists2 = x := by
  unfold pre fn
  rw [h]
  exact ⟨rfl, rfl⟩
theorem sound {ρ : Obs} (hE : EnvOk Go.Proofs.Tryd.prog ρ env) : Sound Go.Proofs.Tryd.prog ρ 27 sig := sound_of (fn := Go.Proofs.Tryd.f27) (c := code) (res := [6, 7]) hE (by kernel_rfl) (by kernel_rfl) (by kernel_rfl) (by kernel_rfl) (by kernel_rfl) loops rfl (show 3 ≤ 133 by decide) (fun d hd => (run_is d).trans (by
  obtain ⟨⟨e0_0, e0_1, e0_2, e0_3, e0_4, e0_5, e0_6, e0_7, e0_8, _⟩, shard1, lists2, _⟩ := d
  exact run_fn e0_0 e0_1 e0_2 e0_3 e0_4 e0_5 e0_6 e0_7 e0_8 shard1 lists2 hd))
theorem enters : Enters Go.Proofs.Tryd.prog 27 := enters_of (fn := Go.Proofs.Tryd.f27) (by kernel_rfl) (by kernel_rfl) (by kernel_rfl)
theorem ok {ρ : Obs} (h : ∀ p ∈ ([(32, Shard.sig), (55, mark.sig), (59, fits.sig), (60, hE.sig)] : List (FuncId × Sig)), Enters Go.Proofs.Tryd.prog p.1 ∧ Sound Go.Proofs.Tryd.prog ρ p.1 p.2) : Enters Go.Proofs.Tryd.prog 27 ∧ Sound Go.Proofs.Tryd.prog ρ 27 sig := ⟨enters, sound (envOk_ofK tabDOk h)⟩
theorem okR : Enters Go.Proofs.Tryd.prog 27 ∧ Sound Go.Proofs.Tryd.prog rho 27 sig := ok (fun p hp => by
  simp only [List.mem_cons, List.not_mem_nil, or_false] at hp
  rcases hp with rfl | rfl | rfl | rfl
  · exact Shard.okR
  · exact mark.okR
  · exact fits.okR
  · exact hE.okR)
end ReadE
namespace Check
abbrev ps : List PM := [.bx 93 [.v (.ptr Ly), .r 3 I64 false, .r 3 I64 false, .r 97 U64 false, .v I64, .v .bool, .v I64, .v I64, .r 3 I64 true]]
abbrev rs : List PM := [.val Ck, .val I64]
noncomputable abbrev code : Code := (Go.Proofs.Tryd.f33.body.getD .skip)
noncomputable def env : Env := mkEnvK tabD [(25, BoundsE.sig), (29, DirtyE.sig)] 5 (fixL ps) [] [(3, (.step 0 (.step 1 (.step 2 (.step 4 (.step 6 (.alt 3 (.step 5 (.step 7 (.step 8 (.step 9 (.step 10 .nil))))) (.step 5 (.alt 3 (.step 7 (.step 8 (.step 9 (.step 10 .nil)))) (.step 7 (.step 3 (.step 8 (.step 9 (.step 10 .nil))))))))))))))] []
abbrev D : Type := (((Option (List Int)) × ((List Int) × ((List Int) × ((List Int) × (Int × (Bool × (Int × (Int × ((List Int) × Bool))))))))) × (Int × ((List Int) × (List Bool))) × Int × Unit)
noncomputable def run' (e0_0 : (Option (List Int))) (e0_1 : (List Int)) (e0_2 : (List Int)) (e0_3 : (List Int)) (e0_4 : Int) (e0_5 : Bool) (e0_6 : Int) (e0_7 : Int) (e0_8 : (List Int)) : Option D := (if e0_5 = Bool.true then some ((e0_0, e0_1, e0_2, e0_3, e0_4, e0_5, e0_6, e0_7, e0_8, Bool.false), ((0 : Int), [], []), (170 : Int), ())
 else (bothK (if BoundsE.pre e0_0 e0_1 e0_2 e0_3 e0_4 e0_5 e0_6 e0_7 e0_8 = Bool.true then (letZ (BoundsE.fn e0_0 e0_1 e0_2 e0_3 e0_4 e0_5 e0_6 e0_7 e0_8) fun z_ =>
 (if DirtyE.pre z_.1.1 z_.1.2.1 z_.1.2.2.1 z_.1.2.2.2.1 z_.1.2.2.2.2.1 z_.1.2.2.2.2.2.1 z_.1.2.2.2.2.2.2.1 z_.1.2.2.2.2.2.2.2.1 z_.1.2.2.2.2.2.2.2.2.1 = Bool.true then (letZ (DirtyE.fn z_.1.1 z_.1.2.1 z_.1.2.2.1 z_.1.2.2.2.1 z_.1.2.2.2.2.1 z_.1.2.2.2.2.2.1 z_.1.2.2.2.2.2.2.1 z_.1.2.2.2.2.2.2.2.1 z_.1.2.2.2.2.2.2.2.2.1) fun z__1 =>
 some ((z__1.1.1, z__1.1.2.1, z__1.1.2.2.1, z__1.1.2.2.2.1, z__1.1.2.2.2.2.1, z__1.1.2.2.2.2.2.1, z__1.1.2.2.2.2.2.2.1, z__1.1.2.2.2.2.2.2.2.1, z__1.1.2.2.2.2.2.2.2.2.1, Bool.false), (e0_4, z_.2.1, z__1.2.1), (0 : Int), ()))
 else none))
 else none)
 (if BoundsE.pre e0_0 e0_1 e0_2 e0_3 e0_4 e0_5 e0_6 e0_7 e0_8 = Bool.true then (letZ (BoundsE.fn e0_0 e0_1 e0_2 e0_3 e0_4 e0_5 e0_6 e0_7 e0_8) fun z__2 =>
 (bothK (if DirtyE.pre z__2.1.1 z__2.1.2.1 z__2.1.2.2.1 z__2.1.2.2.2.1 z__2.1.2.2.2.2.1 z__2.1.2.2.2.2.2.1 z__2.1.2.2.2.2.2.2.1 z__2.1.2.2.2.2.2.2.2.1 z__2.1.2.2.2.2.2.2.2.2.1 = Bool.true then (letZ (DirtyE.fn z__2.1.1 z__2.1.2.1 z__2.1.2.2.1 z__2.1.2.2.2.1 z__2.1.2.2.2.2.1 z__2.1.2.2.2.2.2.1 z__2.1.2.2.2.2.2.2.1 z__2.1.2.2.2.2.2.2.2.1 z__2.1.2.2.2.2.2.2.2.2.1) fun z__3 =>
 some ((z__3.1.1, z__3.1.2.1, z__3.1.2.2.1, z__3.1.2.2.2.1, z__3.1.2.2.2.2.1, z__3.1.2.2.2.2.2.1, z__3.1.2.2.2.2.2.2.1, z__3.1.2.2.2.2.2.2.2.1, z__3.1.2.2.2.2.2.2.2.2.1, Bool.false), (z__2.1.2.2.2.2.1, z__2.2.1, z__3.2.1), (0 : Int), ()))
 else none)
 (if DirtyE.pre z__2.1.1 z__2.1.2.1 z__2.1.2.2.1 z__2.1.2.2.2.1 z__2.1.2.2.2.2.1 z__2.1.2.2.2.2.2.1 z__2.1.2.2.2.2.2.2.1 z__2.1.2.2.2.2.2.2.2.1 z__2.1.2.2.2.2.2.2.2.2.1 = Bool.true then (letZ (DirtyE.fn z__2.1.1 z__2.1.2.1 z__2.1.2.2.1 z__2.1.2.2.2.1 z__2.1.2.2.2.2.1 z__2.1.2.2.2.2.2.1 z__2.1.2.2.2.2.2.2.1 z__2.1.2.2.2.2.2.2.2.1 z__2.1.2.2.2.2.2.2.2.2.1) fun z__4 =>
 some ((z__4.1.1, z__4.1.2.1, z__4.1.2.2.1, z__4.1.2.2.2.1, z__4.1.2.2.2.2.1, z__4.1.2.2.2.2.2.1, z__4.1.2.2.2.2.2.2.1, z__4.1.2.2.2.2.2.2.2.1, z__4.1.2.2.2.2.2.2.2.2.1, Bool.false), (z__4.1.2.2.2.2.1, z__2.2.1, z__4.2.1), (0 : Int), ()))
 else none)))
 else none)))
noncomputable def run (d : Ds (List.map PM.ty ps)) : Option (Ds (muts ps ++ List.map PM.ty rs)) := match d with
  | ((e0_0, e0_1, e0_2, e0_3, e0_4, e0_5, e0_6, e0_7, e0_8, _), _) => run' e0_0 e0_1 e0_2 e0_3 e0_4 e0_5 e0_6 e0_7 e0_8
theorem run_is : ∀ d, runF1 env 18 code 2 25 [3] ps rs d = run d := fun d => by kernel_rfl
theorem loops : LoopsOk env code := loopsOk_of (l := []) (by kernel_rfl) (fun p hp => by
  cases hp)
noncomputable def pre (e0_0 : (Option (List Int))) (e0_1 : (List Int)) (e0_2 : (List Int)) (e0_3 : (List Int)) (e0_4 : Int) (e0_5 : Bool) (e0_6 : Int) (e0_7 : Int) (e0_8 : (List Int)) : Bool := (run' e0_0 e0_1 e0_2 e0_3 e0_4 e0_5 e0_6 e0_7 e0_8).isSome
noncomputable def fn (e0_0 : (Option (List Int))) (e0_1 : (List Int)) (e0_2 : (List Int)) (e0_3 : (List Int)) (e0_4 : Int) (e0_5 : Bool) (e0_6 : Int) (e0_7 : Int) (e0_8 : (List Int)) : D := match run' e0_0 e0_1 e0_2 e0_3 e0_4 e0_5 e0_6 e0_7 e0_8 with
  | some x => x
  | none => default
noncomputable def sig : Sig := ⟨ps, rs, fun d => match d with
  | ((e0_0, e0_1, e0_2, e0_3, e0_4, e0_5, e0_6, e0_7, e0_8, _), _) => pre e0_0 e0_1 e0_2 e0_3 e0_4 e0_5 e0_6 e0_7 e0_8, fun d => match d with
  | ((e0_0, e0_1, e0_2, e0_3, e0_4, e0_5, e0_6, e0_7, e0_8, _), _) => fn e0_0 e0_1 e0_2 e0_3 e0_4 e0_5 e0_6 e0_7 e0_8, false⟩
theorem run_fn (e0_0 : (Option (List Int))) (e0_1 : (List Int)) (e0_2 : (List Int)) (e0_3 : (List Int)) (e0_4 : Int) (e0_5 : Bool) (e0_6 : Int) (e0_7 : Int) (e0_8 : (List Int)) (h : pre e0_0 e0_1 e0_2 e0_3 e0_4 e0_5 e0_6 e0_7 e0_8 = true) : run' e0_0 e0_1 e0_2 e0_3 e0_4 e0_5 e0_6 e0_7 e0_8 = some (fn e0_0 e0_1 e0_2 e0_3 e0_4 e0_5 e0_6 e0_7 e0_8) := by
  unfold pre at h
  unfold fn
  cases e : run' e0_0 e0_1 e0_2 e0_3 e0_4 e0_5 e0_6 e0_7 e0_8 with
  | some x => rfl
  | none => rw [e] at h; cases h
theorem is_fn (e0_0 : (Option (List Int))) (e0_1 : (List Int)) (e0_2 : (List Int)) (e0_3 : (List Int)) (e0_4 : Int) (e0_5 : Bool) (e0_6 : Int) (e0_7 : Int) (e0_8 : (List Int)) {x : D} (h : run' e0_0 e0_1 e0_2 e0_3 e0_4 e0_5 e0_6 e0_7 e0_8 = some x) : pre e0_0 e0_1 e0_2 e0_3 e0_4 e0_5 e0_6 e0_7 e0_8 = true ∧ fn e0_0 e0_1 e0_2 e0_3 e0_4 e0_5 e0_6 e0_7 e0_8 = x := by
  unfold pre fn
  rw [h]
  exact ⟨rfl, rfl⟩
theorem sound {ρ : Obs} (hE : EnvOk Go.Proofs.Tryd.prog ρ env) : Sound Go.Proofs.Tryd.prog ρ 33 sig := sound_of1 (fn := Go.Proofs.Tryd.f33) (c := code) (a := 2) (tid := 25) (res := [3]) hE (by kernel_rfl) (by kernel_rfl) (by kernel_rfl) (by kernel_rfl) (by decide) (by kernel_rfl) loops rfl (show 1 ≤ 18 by decide) (fun d hd => (run_is d).trans (by
  obtain ⟨⟨e0_0, e0_1, e0_2, e0_3, e0_4, e0_5, e0_6, e0_7, e0_8, _⟩, _⟩ := d
  exact run_fn e0_0 e0_1 e0_2 e0_3 e0_4 e0_5 e0_6 e0_7 e0_8 hd))
theorem enters : Enters Go.Proofs.Tryd.prog 33 := enters_of (fn := Go.Proofs.Tryd.f33) (by kernel_rfl) (by kernel_rfl) (by kernel_rfl)
theorem ok {ρ : Obs} (h : ∀ p ∈ ([(25, BoundsE.sig), (29, DirtyE.sig)] : List (FuncId × Sig)), Enters Go.Proofs.Tryd.prog p.1 ∧ Sound Go.Proofs.Tryd.prog ρ p.1 p.2) : Enters Go.Proofs.Tryd.prog 33 ∧ Sound Go.Proofs.Tryd.prog ρ 33 sig := ⟨enters, sound (envOk_ofK tabDOk h)⟩
theorem okR : Enters Go.Proofs.Tryd.prog 33 ∧ Sound Go.Proofs.Tryd.prog rho 33 sig := ok (fun p hp => by
  simp only [List.mem_cons, List.not_mem_nil, or_false] at hp
  rcases hp with rfl | rfl
  · exact BoundsE.okR
  · exact DirtyE.okR)
end Check
namespace list17
abbrev ps : List PM := [.val I64, .val (.list I64)]
abbrev rs : List PM := [.val Li]
noncomputable abbrev code : Code := (Go.Proofs.Tryd.f40.body.getD .skip)
noncomputable def env : Env := mkEnv tabD [] 0 [] []
abbrev D : Type := ((Int × (List Int)) × Unit)
noncomputable def run' (v0 : Int) (to1 : (List Int)) : Option D := some ((v0, to1), ())
noncomputable def run (d : Ds (List.map PM.ty ps)) : Option (Ds (muts ps ++ List.map PM.ty rs)) := match d with
  | (v0, to1, _) => run' v0 to1
theorem run_is : ∀ d, runF1 env 8 code 4 74 [] ps rs d = run d := fun d => by kernel_rfl
theorem loops : LoopsOk env code := loopsOk_of (l := []) (by kernel_rfl) (fun p hp => by
  cases hp)
noncomputable def pre (v0 : Int) (to1 : (List Int)) : Bool := (run' v0 to1).isSome
noncomputable def fn (v0 : Int) (to1 : (List Int)) : D := match run' v0 to1 with
  | some x => x
  | none => default
noncomputable def sig : Sig := ⟨ps, rs, fun d => match d with
  | (v0, to1, _) => pre v0 to1, fun d => match d with
  | (v0, to1, _) => fn v0 to1, false⟩
theorem run_fn (v0 : Int) (to1 : (List Int)) (h : pre v0 to1 = true) : run' v0 to1 = some (fn v0 to1) := by
  unfold pre at h
  unfold fn
  cases e : run' v0 to1 with
  | some x => rfl
  | none => rw [e] at h; cases h
theorem is_fn (v0 : Int) (to1 : (List Int)) {x : D} (h : run' v0 to1 = some x) : pre v0 to1 = true ∧ fn v0 to1 = x := by
  unfold pre fn
  rw [h]
  exact ⟨rfl, rfl⟩
theorem sound {ρ : Obs} (hE : EnvOk Go.Proofs.Tryd.prog ρ env) : Sound Go.Proofs.Tryd.prog ρ 40 sig := sound_of1 (fn := Go.Proofs.Tryd.f40) (c := code) (a := 4) (tid := 74) (res := []) hE (by kernel_rfl) (by kernel_rfl) (by kernel_rfl) (by kernel_rfl) (by decide) (by kernel_rfl) loops rfl (show 2 ≤ 8 by decide) (fun d hd => (run_is d).trans (by
  obtain ⟨v0, to1, _⟩ := d
  exact run_fn v0 to1 hd))
theorem enters : Enters Go.Proofs.Tryd.prog 40 := enters_of (fn := Go.Proofs.Tryd.f40) (by kernel_rfl) (by kernel_rfl) (by kernel_rfl)
theorem ok {ρ : Obs} (h : ∀ p ∈ ([] : List (FuncId × Sig)), Enters Go.Proofs.Tryd.prog p.1 ∧ Sound Go.Proofs.Tryd.prog ρ p.1 p.2) : Enters Go.Proofs.Tryd.prog 40 ∧ Sound Go.Proofs.Tryd.prog ρ 40 sig := ⟨enters, sound (envOk_of tabDOk h)⟩
theorem okR : Enters Go.Proofs.Tryd.prog 40 ∧ Sound Go.Proofs.Tryd.prog rho 40 sig := ok (fun p hp => by
  cases hp)
end list17
end Go.Proofs.YthbojpaghbbnnaaDoor.Z
namespace Go.Proofs.YthbojpaghbbnnaaDoor.Z
open Go Go.RowKit
set_option linter.unusedVariables false
set_option linter.unusedSimpArgs false
namespace first17
abbrev ps : List PM := []
abbrev rs : List PM := [.val .bool]
noncomputable abbrev code : Code := (Go.Proofs.Tryd.f9.body.getD .skip)
noncomputable def env : Env := mkEnv tabD [(39, layNew.sig), (16, num17.sig), (14, NewE.sig), (23, NextE.sig), (40, list17.sig), (27, ReadE.sig), (36, SameBools.sig), (29, DirtyE.sig), (21, SameIntsH.sig), (25, BoundsE.sig), (18, DoneE.sig), (19, PassesE.sig)] 0 [] []
abbrev D : Type := (Bool × Unit)
noncomputable def run' : Option D := (if layNew.pre (6 : Int) [(3 : Int), (6 : Int)] = Bool.true then (if Option.isNone (layNew.fn (6 : Int) [(3 : Int), (6 : Int)]).1 = Bool.false then (if num17.pre (layNew.fn (6 : Int) [(3 : Int), (6 : Int)]).2.1 = Bool.true then (if ((num17.fn (layNew.fn (6 : Int) [(3 : Int), (6 : Int)]).2.1).1 != (0 : Int)) = Bool.true then some (Bool.false, ())
 else (if NewE.pre (layNew.fn (6 : Int) [(3 : Int), (6 : Int)]).1 [(2 : Int), (2 : Int), (3 : Int), (2 : Int), (2 : Int), (1 : Int)] = Bool.true then (letZ (NewE.fn (layNew.fn (6 : Int) [(3 : Int), (6 : Int)]).1 [(2 : Int), (2 : Int), (3 : Int), (2 : Int), (2 : Int), (1 : Int)]) fun z_ =>
 (if Option.isNone z_.1 = Bool.true then (if NewE.pre (layNew.fn (6 : Int) [(3 : Int), (6 : Int)]).1 [(2 : Int), (2 : Int), (3 : Int), (2 : Int), (2 : Int)] = Bool.true then (letZ (NewE.fn (layNew.fn (6 : Int) [(3 : Int), (6 : Int)]).1 [(2 : Int), (2 : Int), (3 : Int), (2 : Int), (2 : Int)]) fun z__1 =>
 (if Option.isNone z__1.1 = Bool.true then some (Bool.false, ())
 else some (Bool.false, ())))
 else none)
 else (if NewE.pre (layNew.fn (6 : Int) [(3 : Int), (6 : Int)]).1 [(2 : Int), (2 : Int), (3 : Int), (2 : Int), (2 : Int)] = Bool.true then (letZ (NewE.fn (layNew.fn (6 : Int) [(3 : Int), (6 : Int)]).1 [(2 : Int), (2 : Int), (3 : Int), (2 : Int), (2 : Int)]) fun z__2 =>
 (if Option.isNone z__2.1 = Bool.true then (if num17.pre z_.2.1 = Bool.true then (if ((num17.fn z_.2.1).1 != (0 : Int)) = Bool.false then (if num17.pre z__2.2.1 = Bool.true then (if ((num17.fn z__2.2.1).1 != (172 : Int)) = Bool.true then some (Bool.false, ())
 else (if list17.pre (0 : Int) [(1 : Int), (2 : Int)] = Bool.true then (if list17.pre (1 : Int) [(0 : Int), (2 : Int)] = Bool.true then (if list17.pre (2 : Int) [(0 : Int), (1 : Int), (3 : Int)] = Bool.true then (if list17.pre (3 : Int) [(2 : Int), (4 : Int)] = Bool.true then (if list17.pre (4 : Int) [(3 : Int), (5 : Int)] = Bool.true then (if list17.pre (5 : Int) [(4 : Int)] = Bool.true then (if NextE.pre (Option.getD z_.1 (Option.none, [], [], [], (0 : Int), Bool.false, (0 : Int), (0 : Int), [], Bool.false)).1 (Option.getD z_.1 (Option.none, [], [], [], (0 : Int), Bool.false, (0 : Int), (0 : Int), [], Bool.false)).2.1 (Option.getD z_.1 (Option.none, [], [], [], (0 : Int), Bool.false, (0 : Int), (0 : Int), [], Bool.false)).2.2.1 (Option.getD z_.1 (Option.none, [], [], [], (0 : Int), Bool.false, (0 : Int), (0 : Int), [], Bool.false)).2.2.2.1 (Option.getD z_.1 (Option.none, [], [], [], (0 : Int), Bool.false, (0 : Int), (0 : Int), [], Bool.false)).2.2.2.2.1 (Option.getD z_.1 (Option.none, [], [], [], (0 : Int), Bool.false, (0 : Int), (0 : Int), [], Bool.false)).2.2.2.2.2.1 (Option.getD z_.1 (Option.none, [], [], [], (0 : Int), Bool.false, (0 : Int), (0 : Int), [], Bool.false)).2.2.2.2.2.2.1 (Option.getD z_.1 (Option.none, [], [], [], (0 : Int), Bool.false, (0 : Int), (0 : Int), [], Bool.false)).2.2.2.2.2.2.2.1 (Option.getD z_.1 (Option.none, [], [], [], (0 : Int), Bool.false, (0 : Int), (0 : Int), [], Bool.false)).2.2.2.2.2.2.2.2.1 = Bool.true then (letZ (NextE.fn (Option.getD z_.1 (Option.none, [], [], [], (0 : Int), Bool.false, (0 : Int), (0 : Int), [], Bool.false)).1 (Option.getD z_.1 (Option.none, [], [], [], (0 : Int), Bool.false, (0 : Int), (0 : Int), [], Bool.false)).2.1 (Option.getD z_.1 (Option.none, [], [], [], (0 : Int), Bool.false, (0 : Int), (0 : Int), [], Bool.false)).2.2.1 (Option.getD z_.1 (Option.none, [], [], [], (0 : Int), Bool.false, (0 : Int), (0 : Int), [], Bool.false)).2.2.2.1 (Option.getD z_.1 (Option.none, [], [], [], (0 : Int), Bool.false, (0 : Int), (0 : Int), [], Bool.false)).2.2.2.2.1 (Option.getD z_.1 (Option.none, [], [], [], (0 : Int), Bool.false, (0 : Int), (0 : Int), [], Bool.false)).2.2.2.2.2.1 (Option.getD z_.1 (Option.none, [], [], [], (0 : Int), Bool.false, (0 : Int), (0 : Int), [], Bool.false)).2.2.2.2.2.2.1 (Option.getD z_.1 (Option.none, [], [], [], (0 : Int), Bool.false, (0 : Int), (0 : Int), [], Bool.false)).2.2.2.2.2.2.2.1 (Option.getD z_.1 (Option.none, [], [], [], (0 : Int), Bool.false, (0 : Int), (0 : Int), [], Bool.false)).2.2.2.2.2.2.2.2.1) fun z__3 =>
 (if ReadE.pre z__3.1.1 z__3.1.2.1 z__3.1.2.2.1 z__3.1.2.2.2.1 z__3.1.2.2.2.2.1 z__3.1.2.2.2.2.2.1 z__3.1.2.2.2.2.2.2.1 z__3.1.2.2.2.2.2.2.2.1 z__3.1.2.2.2.2.2.2.2.2.1 (1 : Int) [] = Bool.true then (letZ (ReadE.fn z__3.1.1 z__3.1.2.1 z__3.1.2.2.1 z__3.1.2.2.2.1 z__3.1.2.2.2.2.1 z__3.1.2.2.2.2.2.1 z__3.1.2.2.2.2.2.2.1 z__3.1.2.2.2.2.2.2.2.1 z__3.1.2.2.2.2.2.2.2.2.1 (1 : Int) []) fun z__4 =>
 (if ReadE.pre z__4.1.1 z__4.1.2.1 z__4.1.2.2.1 z__4.1.2.2.2.1 z__4.1.2.2.2.2.1 z__4.1.2.2.2.2.2.1 z__4.1.2.2.2.2.2.2.1 z__4.1.2.2.2.2.2.2.2.1 z__4.1.2.2.2.2.2.2.2.2.1 (0 : Int) [(list17.fn (0 : Int) [(1 : Int), (2 : Int)]).1, (list17.fn (1 : Int) [(0 : Int), (2 : Int)]).1, (list17.fn (2 : Int) [(0 : Int), (1 : Int), (3 : Int)]).1] = Bool.true then (letZ (ReadE.fn z__4.1.1 z__4.1.2.1 z__4.1.2.2.1 z__4.1.2.2.2.1 z__4.1.2.2.2.2.1 z__4.1.2.2.2.2.2.1 z__4.1.2.2.2.2.2.2.1 z__4.1.2.2.2.2.2.2.2.1 z__4.1.2.2.2.2.2.2.2.2.1 (0 : Int) [(list17.fn (0 : Int) [(1 : Int), (2 : Int)]).1, (list17.fn (1 : Int) [(0 : Int), (2 : Int)]).1, (list17.fn (2 : Int) [(0 : Int), (1 : Int), (3 : Int)]).1]) fun z__5 =>
 (if NextE.pre z__5.1.1 z__5.1.2.1 z__5.1.2.2.1 z__5.1.2.2.2.1 z__5.1.2.2.2.2.1 z__5.1.2.2.2.2.2.1 z__5.1.2.2.2.2.2.2.1 z__5.1.2.2.2.2.2.2.2.1 z__5.1.2.2.2.2.2.2.2.2.1 = Bool.true then (letZ (NextE.fn z__5.1.1 z__5.1.2.1 z__5.1.2.2.1 z__5.1.2.2.2.1 z__5.1.2.2.2.2.1 z__5.1.2.2.2.2.2.1 z__5.1.2.2.2.2.2.2.1 z__5.1.2.2.2.2.2.2.2.1 z__5.1.2.2.2.2.2.2.2.2.1) fun z__6 =>
 (if ReadE.pre z__6.1.1 z__6.1.2.1 z__6.1.2.2.1 z__6.1.2.2.2.1 z__6.1.2.2.2.2.1 z__6.1.2.2.2.2.2.1 z__6.1.2.2.2.2.2.2.1 z__6.1.2.2.2.2.2.2.2.1 z__6.1.2.2.2.2.2.2.2.2.1 (1 : Int) [(list17.fn (3 : Int) [(2 : Int), (4 : Int)]).1, (list17.fn (4 : Int) [(3 : Int), (5 : Int)]).1, (list17.fn (5 : Int) [(4 : Int)]).1] = Bool.true then (letZ (ReadE.fn z__6.1.1 z__6.1.2.1 z__6.1.2.2.1 z__6.1.2.2.2.1 z__6.1.2.2.2.2.1 z__6.1.2.2.2.2.2.1 z__6.1.2.2.2.2.2.2.1 z__6.1.2.2.2.2.2.2.2.1 z__6.1.2.2.2.2.2.2.2.2.1 (1 : Int) [(list17.fn (3 : Int) [(2 : Int), (4 : Int)]).1, (list17.fn (4 : Int) [(3 : Int), (5 : Int)]).1, (list17.fn (5 : Int) [(4 : Int)]).1]) fun z__7 =>
 (if NextE.pre z__7.1.1 z__7.1.2.1 z__7.1.2.2.1 z__7.1.2.2.2.1 z__7.1.2.2.2.2.1 z__7.1.2.2.2.2.2.1 z__7.1.2.2.2.2.2.2.1 z__7.1.2.2.2.2.2.2.2.1 z__7.1.2.2.2.2.2.2.2.2.1 = Bool.true then (letZ (NextE.fn z__7.1.1 z__7.1.2.1 z__7.1.2.2.1 z__7.1.2.2.2.1 z__7.1.2.2.2.2.1 z__7.1.2.2.2.2.2.1 z__7.1.2.2.2.2.2.2.1 z__7.1.2.2.2.2.2.2.2.1 z__7.1.2.2.2.2.2.2.2.2.1) fun z__8 =>
 (if DirtyE.pre z__8.1.1 z__8.1.2.1 z__8.1.2.2.1 z__8.1.2.2.2.1 z__8.1.2.2.2.2.1 z__8.1.2.2.2.2.2.1 z__8.1.2.2.2.2.2.2.1 z__8.1.2.2.2.2.2.2.2.1 z__8.1.2.2.2.2.2.2.2.2.1 = Bool.true then (letZ (DirtyE.fn z__8.1.1 z__8.1.2.1 z__8.1.2.2.1 z__8.1.2.2.2.1 z__8.1.2.2.2.2.1 z__8.1.2.2.2.2.2.1 z__8.1.2.2.2.2.2.2.1 z__8.1.2.2.2.2.2.2.2.1 z__8.1.2.2.2.2.2.2.2.2.1) fun z__9 =>
 (if SameBools.pre z__9.2.1 [Bool.false, Bool.true] = Bool.true then (if NextE.pre z__9.1.1 z__9.1.2.1 z__9.1.2.2.1 z__9.1.2.2.2.1 z__9.1.2.2.2.2.1 z__9.1.2.2.2.2.2.1 z__9.1.2.2.2.2.2.2.1 z__9.1.2.2.2.2.2.2.2.1 z__9.1.2.2.2.2.2.2.2.2.1 = Bool.true then (letZ (NextE.fn z__9.1.1 z__9.1.2.1 z__9.1.2.2.1 z__9.1.2.2.2.1 z__9.1.2.2.2.2.1 z__9.1.2.2.2.2.2.1 z__9.1.2.2.2.2.2.2.1 z__9.1.2.2.2.2.2.2.2.1 z__9.1.2.2.2.2.2.2.2.2.1) fun z__10 =>
 (if ReadE.pre z__10.1.1 z__10.1.2.1 z__10.1.2.2.1 z__10.1.2.2.2.1 z__10.1.2.2.2.2.1 z__10.1.2.2.2.2.2.1 z__10.1.2.2.2.2.2.2.1 z__10.1.2.2.2.2.2.2.2.1 z__10.1.2.2.2.2.2.2.2.2.1 (1 : Int) [(list17.fn (3 : Int) [(2 : Int), (4 : Int)]).1, (list17.fn (4 : Int) [(3 : Int), (5 : Int)]).1, (list17.fn (5 : Int) [(4 : Int)]).1] = Bool.true then (letZ (ReadE.fn z__10.1.1 z__10.1.2.1 z__10.1.2.2.1 z__10.1.2.2.2.1 z__10.1.2.2.2.2.1 z__10.1.2.2.2.2.2.1 z__10.1.2.2.2.2.2.2.1 z__10.1.2.2.2.2.2.2.2.1 z__10.1.2.2.2.2.2.2.2.2.1 (1 : Int) [(list17.fn (3 : Int) [(2 : Int), (4 : Int)]).1, (list17.fn (4 : Int) [(3 : Int), (5 : Int)]).1, (list17.fn (5 : Int) [(4 : Int)]).1]) fun z__11 =>
 (if NextE.pre z__11.1.1 z__11.1.2.1 z__11.1.2.2.1 z__11.1.2.2.2.1 z__11.1.2.2.2.2.1 z__11.1.2.2.2.2.2.1 z__11.1.2.2.2.2.2.2.1 z__11.1.2.2.2.2.2.2.2.1 z__11.1.2.2.2.2.2.2.2.2.1 = Bool.true then (letZ (NextE.fn z__11.1.1 z__11.1.2.1 z__11.1.2.2.1 z__11.1.2.2.2.1 z__11.1.2.2.2.2.1 z__11.1.2.2.2.2.2.1 z__11.1.2.2.2.2.2.2.1 z__11.1.2.2.2.2.2.2.2.1 z__11.1.2.2.2.2.2.2.2.2.1) fun z__12 =>
 (if NextE.pre z__12.1.1 z__12.1.2.1 z__12.1.2.2.1 z__12.1.2.2.2.1 z__12.1.2.2.2.2.1 z__12.1.2.2.2.2.2.1 z__12.1.2.2.2.2.2.2.1 z__12.1.2.2.2.2.2.2.2.1 z__12.1.2.2.2.2.2.2.2.2.1 = Bool.true then (letZ (NextE.fn z__12.1.1 z__12.1.2.1 z__12.1.2.2.1 z__12.1.2.2.2.1 z__12.1.2.2.2.2.1 z__12.1.2.2.2.2.2.1 z__12.1.2.2.2.2.2.2.1 z__12.1.2.2.2.2.2.2.2.1 z__12.1.2.2.2.2.2.2.2.2.1) fun z__13 =>
 (if ReadE.pre z__13.1.1 z__13.1.2.1 z__13.1.2.2.1 z__13.1.2.2.2.1 z__13.1.2.2.2.2.1 z__13.1.2.2.2.2.2.1 z__13.1.2.2.2.2.2.2.1 z__13.1.2.2.2.2.2.2.2.1 z__13.1.2.2.2.2.2.2.2.2.1 (0 : Int) [(list17.fn (0 : Int) [(1 : Int), (2 : Int)]).1, (list17.fn (1 : Int) [(0 : Int), (2 : Int)]).1, (list17.fn (2 : Int) [(0 : Int), (1 : Int), (3 : Int)]).1] = Bool.true then (letZ (ReadE.fn z__13.1.1 z__13.1.2.1 z__13.1.2.2.1 z__13.1.2.2.2.1 z__13.1.2.2.2.2.1 z__13.1.2.2.2.2.2.1 z__13.1.2.2.2.2.2.2.1 z__13.1.2.2.2.2.2.2.2.1 z__13.1.2.2.2.2.2.2.2.2.1 (0 : Int) [(list17.fn (0 : Int) [(1 : Int), (2 : Int)]).1, (list17.fn (1 : Int) [(0 : Int), (2 : Int)]).1, (list17.fn (2 : Int) [(0 : Int), (1 : Int), (3 : Int)]).1]) fun z__14 =>
 (if NextE.pre z__14.1.1 z__14.1.2.1 z__14.1.2.2.1 z__14.1.2.2.2.1 z__14.1.2.2.2.2.1 z__14.1.2.2.2.2.2.1 z__14.1.2.2.2.2.2.2.1 z__14.1.2.2.2.2.2.2.2.1 z__14.1.2.2.2.2.2.2.2.2.1 = Bool.true then (letZ (NextE.fn z__14.1.1 z__14.1.2.1 z__14.1.2.2.1 z__14.1.2.2.2.1 z__14.1.2.2.2.2.1 z__14.1.2.2.2.2.2.1 z__14.1.2.2.2.2.2.2.1 z__14.1.2.2.2.2.2.2.2.1 z__14.1.2.2.2.2.2.2.2.2.1) fun z__15 =>
 (if NextE.pre z__15.1.1 z__15.1.2.1 z__15.1.2.2.1 z__15.1.2.2.2.1 z__15.1.2.2.2.2.1 z__15.1.2.2.2.2.2.1 z__15.1.2.2.2.2.2.2.1 z__15.1.2.2.2.2.2.2.2.1 z__15.1.2.2.2.2.2.2.2.2.1 = Bool.true then (letZ (NextE.fn z__15.1.1 z__15.1.2.1 z__15.1.2.2.1 z__15.1.2.2.2.1 z__15.1.2.2.2.2.1 z__15.1.2.2.2.2.2.1 z__15.1.2.2.2.2.2.2.1 z__15.1.2.2.2.2.2.2.2.1 z__15.1.2.2.2.2.2.2.2.2.1) fun z__16 =>
 (if BoundsE.pre z__16.1.1 z__16.1.2.1 z__16.1.2.2.1 z__16.1.2.2.2.1 z__16.1.2.2.2.2.1 z__16.1.2.2.2.2.2.1 z__16.1.2.2.2.2.2.2.1 z__16.1.2.2.2.2.2.2.2.1 z__16.1.2.2.2.2.2.2.2.2.1 = Bool.true then (letZ (BoundsE.fn z__16.1.1 z__16.1.2.1 z__16.1.2.2.1 z__16.1.2.2.2.1 z__16.1.2.2.2.2.1 z__16.1.2.2.2.2.2.1 z__16.1.2.2.2.2.2.2.1 z__16.1.2.2.2.2.2.2.2.1 z__16.1.2.2.2.2.2.2.2.2.1) fun z__17 =>
 (if SameIntsH.pre z__17.2.1 [(2 : Int), (2 : Int), (2 : Int), (1 : Int), (1 : Int), (1 : Int)] = Bool.true then (if num17.pre z__4.2.2.1 = Bool.true then (if ((num17.fn z__4.2.2.1).1 != (170 : Int)) = Bool.false then (if num17.pre z__5.2.2.1 = Bool.true then (if num17.pre z__7.2.2.1 = Bool.true then (if num17.pre z__11.2.2.1 = Bool.true then (if num17.pre z__14.2.2.1 = Bool.true then (if (IntKind.wrap .i64 (IntKind.wrap .i64 (IntKind.wrap .i64 ((num17.fn z__5.2.2.1).1 + (num17.fn z__7.2.2.1).1) + (num17.fn z__11.2.2.1).1) + (num17.fn z__14.2.2.1).1) != (0 : Int)) = Bool.true then some (Bool.false, ())
 else (if (z__3.2.1 == (0 : Int)) = Bool.true then (if (z__5.2.1 == (1 : Int)) = Bool.true then (if (z__6.2.1 == (1 : Int)) = Bool.true then (if (z__7.2.1 == (1 : Int)) = Bool.true then (if (z__8.2.1 == (-1 : Int)) = Bool.true then (if (z__11.2.1 == (1 : Int)) = Bool.true then (if (z__13.2.1 == (0 : Int)) = Bool.true then (if (z__14.2.1 == (0 : Int)) = Bool.true then (if (z__16.2.1 == (-1 : Int)) = Bool.true then (if (SameBools.fn z__9.2.1 [Bool.false, Bool.true]).1 = Bool.true then (if (SameIntsH.fn z__17.2.1 [(2 : Int), (2 : Int), (2 : Int), (1 : Int), (1 : Int), (1 : Int)]).1 = Bool.true then (if DoneE.pre z__17.1.1 z__17.1.2.1 z__17.1.2.2.1 z__17.1.2.2.2.1 z__17.1.2.2.2.2.1 z__17.1.2.2.2.2.2.1 z__17.1.2.2.2.2.2.2.1 z__17.1.2.2.2.2.2.2.2.1 z__17.1.2.2.2.2.2.2.2.2.1 = Bool.true then (letZ (DoneE.fn z__17.1.1 z__17.1.2.1 z__17.1.2.2.1 z__17.1.2.2.2.1 z__17.1.2.2.2.2.1 z__17.1.2.2.2.2.2.1 z__17.1.2.2.2.2.2.2.1 z__17.1.2.2.2.2.2.2.2.1 z__17.1.2.2.2.2.2.2.2.2.1) fun z__18 =>
 (if z__18.2.1 = Bool.true then (if PassesE.pre z__18.1.1 z__18.1.2.1 z__18.1.2.2.1 z__18.1.2.2.2.1 z__18.1.2.2.2.2.1 z__18.1.2.2.2.2.2.1 z__18.1.2.2.2.2.2.2.1 z__18.1.2.2.2.2.2.2.2.1 z__18.1.2.2.2.2.2.2.2.2.1 = Bool.true then (letZ (PassesE.fn z__18.1.1 z__18.1.2.1 z__18.1.2.2.1 z__18.1.2.2.2.1 z__18.1.2.2.2.2.1 z__18.1.2.2.2.2.2.1 z__18.1.2.2.2.2.2.2.1 z__18.1.2.2.2.2.2.2.2.1 z__18.1.2.2.2.2.2.2.2.2.1) fun z__19 =>
 some (z__19.2.1 == (3 : Int), ()))
 else none)
 else some (Bool.false, ())))
 else none)
 else some (Bool.false, ()))
 else some (Bool.false, ()))
 else some (Bool.false, ()))
 else some (Bool.false, ()))
 else some (Bool.false, ()))
 else some (Bool.false, ()))
 else some (Bool.false, ()))
 else some (Bool.false, ()))
 else some (Bool.false, ()))
 else some (Bool.false, ()))
 else some (Bool.false, ())))
 else none)
 else none)
 else none)
 else none)
 else some (Bool.false, ()))
 else none)
 else none))
 else none))
 else none))
 else none))
 else none))
 else none))
 else none))
 else none))
 else none)
 else none))
 else none))
 else none))
 else none))
 else none))
 else none))
 else none))
 else none)
 else none)
 else none)
 else none)
 else none)
 else none)
 else none))
 else none)
 else some (Bool.false, ()))
 else none)
 else some (Bool.false, ())))
 else none)))
 else none))
 else none)
 else some (Bool.false, ()))
 else none)
noncomputable def run (d : Ds (List.map PM.ty ps)) : Option (Ds (muts ps ++ List.map PM.ty rs)) := match d with
  | _ => run'
theorem run_is : ∀ d, runF env 199 code [0] ps rs d = run d := fun d => by kernel_rfl
theorem loops : LoopsOk env code := loopsOk_of (l := []) (by kernel_rfl) (fun p hp => by
  cases hp)
noncomputable def pre : Bool := (run').isSome
noncomputable def fn : D := match run' with
  | some x => x
  | none => default
noncomputable def sig : Sig := ⟨ps, rs, fun d => match d with
  | _ => pre, fun d => match d with
  | _ => fn, false⟩
theorem run_fn (h : pre = true) : run' = some (fn) := by
  unfold pre at h
  unfold fn
  cases e : run' with
  | some x => rfl
  | none => rw [e] at h; cases h
theorem is_fn {x : D} (h : run' = some x) : pre = true ∧ fn = x := by
  unfold pre fn
  rw [h]
  exact ⟨rfl, rfl⟩
theorem sound {ρ : Obs} (hE : EnvOk Go.Proofs.Tryd.prog ρ env) : Sound Go.Proofs.Tryd.prog ρ 9 sig := sound_of (fn := Go.Proofs.Tryd.f9) (c := code) (res := [0]) hE (by kernel_rfl) (by kernel_rfl) (by kernel_rfl) (by kernel_rfl) (by kernel_rfl) loops rfl (show 0 ≤ 199 by decide) (fun d hd => (run_is d).trans (by
  exact run_fn hd))
theorem enters : Enters Go.Proofs.Tryd.prog 9 := enters_of (fn := Go.Proofs.Tryd.f9) (by kernel_rfl) (by kernel_rfl) (by kernel_rfl)
theorem ok {ρ : Obs} (h : ∀ p ∈ ([(39, layNew.sig), (16, num17.sig), (14, NewE.sig), (23, NextE.sig), (40, list17.sig), (27, ReadE.sig), (36, SameBools.sig), (29, DirtyE.sig), (21, SameIntsH.sig), (25, BoundsE.sig), (18, DoneE.sig), (19, PassesE.sig)] : List (FuncId × Sig)), Enters Go.Proofs.Tryd.prog p.1 ∧ Sound Go.Proofs.Tryd.prog ρ p.1 p.2) : Enters Go.Proofs.Tryd.prog 9 ∧ Sound Go.Proofs.Tryd.prog ρ 9 sig := ⟨enters, sound (envOk_of tabDOk h)⟩
theorem okR : Enters Go.Proofs.Tryd.prog 9 ∧ Sound Go.Proofs.Tryd.prog rho 9 sig := ok (fun p hp => by
  simp only [List.mem_cons, List.not_mem_nil, or_false] at hp
  rcases hp with rfl | rfl | rfl | rfl | rfl | rfl | rfl | rfl | rfl | rfl | rfl | rfl
  · exact layNew.okR
  · exact num17.okR
  · exact NewE.okR
  · exact NextE.okR
  · exact list17.okR
  · exact ReadE.okR
  · exact SameBools.okR
  · exact DirtyE.okR
  · exact SameIntsH.okR
  · exact BoundsE.okR
  · exact DoneE.okR
  · exact PassesE.okR)
end first17
end Go.Proofs.YthbojpaghbbnnaaDoor.Z
