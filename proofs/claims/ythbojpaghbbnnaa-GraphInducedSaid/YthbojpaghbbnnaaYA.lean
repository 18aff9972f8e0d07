/- What functions compute from plain values: in5, at5, stands5, with5, wout5, joins5, cuts5, Make5, N5, Edges5, Nb5, Has5, Pairs5, Arcs5, Lists5, kept5, IntL5, Chg5, Parts5, SameL5. Printed by a small program of ours (zgen, zg.py); no condition. -/
import Derived.Test.YthbojpaghbbnnaaZN
import Derived.Test.YthbojpaghbbnnaaZT
import Derived.Test.YthbojpaghbbnnaaZP
import Derived.Test.YthbojpaghbbnnaaZS
import Derived.KernelRfl
namespace Go.Proofs.Ythbojpaghbbnnaa.Z
open Go Go.RowKit
set_option linter.unusedVariables false
set_option linter.unusedSimpArgs false
/-! pith/pithref5.in -/
namespace in5
abbrev ps : List PM := [.val I64, .val I64]
abbrev rs : List PM := [.val .bool]
noncomputable abbrev code : Code := (Go.Proofs.Try.f120.body.getD .skip)
noncomputable def env : Env := mkEnv tab [] 0 [] []
abbrev D : Type := (Bool × Unit)
noncomputable def run' (v0 : Int) (n1 : Int) : Option D := (if Decidable.decide (v0 ≥ (0 : Int)) = Bool.true then some (Decidable.decide (v0 < n1), ())
 else some (Bool.false, ()))
noncomputable def run (d : Ds (List.map PM.ty ps)) : Option (Ds (muts ps ++ List.map PM.ty rs)) := match d with
  | (v0, n1, _) => run' v0 n1
theorem run_is : ∀ d, runF env 12 code [4] ps rs d = run d := fun d => by kernel_rfl
theorem loops : LoopsOk env code := loopsOk_of (l := []) (by kernel_rfl) (fun p hp => by
  cases hp)
noncomputable def pre (v0 : Int) (n1 : Int) : Bool := (run' v0 n1).isSome
noncomputable def fn (v0 : Int) (n1 : Int) : D := match run' v0 n1 with
  | some x => x
  | none => default
noncomputable def sig : Sig := ⟨ps, rs, fun d => match d with
  | (v0, n1, _) => pre v0 n1, fun d => match d with
  | (v0, n1, _) => fn v0 n1, false⟩
theorem run_fn (v0 : Int) (n1 : Int) (h : pre v0 n1 = true) : run' v0 n1 = some (fn v0 n1) := by
  unfold pre at h
  unfold fn
  cases e : run' v0 n1 with
  | some x => rfl
  | none => rw [e] at h; cases h
theorem is_fn (v0 : Int) (n1 : Int) {x : D} (h : run' v0 n1 = some x) : pre v0 n1 = true ∧ fn v0 n1 = x := by
  unfold pre fn
  rw [h]
  exact ⟨rfl, rfl⟩
theorem sound {ρ : Obs} (hE : EnvOk Go.Proofs.Try.prog ρ env) : Sound Go.Proofs.Try.prog ρ 120 sig := sound_of (fn := Go.Proofs.Try.f120) (c := code) (res := [4]) hE (by kernel_rfl) (by kernel_rfl) (by kernel_rfl) (by kernel_rfl) (by kernel_rfl) loops rfl (show 2 ≤ 12 by decide) (fun d hd => (run_is d).trans (by
  obtain ⟨v0, n1, _⟩ := d
  exact run_fn v0 n1 hd))
theorem enters : Enters Go.Proofs.Try.prog 120 := enters_of (fn := Go.Proofs.Try.f120) (by kernel_rfl) (by kernel_rfl) (by kernel_rfl)
theorem ok {ρ : Obs} (h : ∀ p ∈ ([] : List (FuncId × Sig)), Enters Go.Proofs.Try.prog p.1 ∧ Sound Go.Proofs.Try.prog ρ p.1 p.2) : Enters Go.Proofs.Try.prog 120 ∧ Sound Go.Proofs.Try.prog ρ 120 sig := ⟨enters, sound (envOk_of tabOk h)⟩
theorem okR : Enters Go.Proofs.Try.prog 120 ∧ Sound Go.Proofs.Try.prog rho 120 sig := ok (fun p hp => by
  cases hp)
end in5
/-! pith/pithref5.at -/
namespace at5
abbrev ps : List PM := [.val (.list I64), .val I64]
abbrev rs : List PM := [.val I64]
noncomputable abbrev code : Code := (Go.Proofs.Try.f145.body.getD .skip)
abbrev s3 : Shape := ⟨[.v (.list I64), .v I64, .un, .un, .un, .v I64, .v I64, .un, .un, .un, .un, .un, .un, .un, .un, .un, .un, .un, .un, .un, .un, .un, .un, .un, .un, .un, .un], []⟩
abbrev x3 : List Way := [⟨(.ex 0), ⟨[(5, none)]⟩, ⟨[.un, .un, .un, .un, .un, .v I64, .un, .un, .un, .un, .un, .un, .un, .un, .un, .un, .un, .un, .un, .un, .un, .un, .un, .un, .un, .un, .un], []⟩⟩]
abbrev V3 : Type := ((List Int) × Int × Int × Int × Unit) × (Unit)
abbrev X3 : Type := (Int × Unit) × (Unit)
noncomputable def R3 {R : Type} (l0 : (List Int)) (u1 : Int) (lo5 : Int) (hi6 : Int) (k : V3 → Option R) (kx : X3 → Option R) : Option R := (if Decidable.decide (lo5 < hi6) = Bool.true then (if (0 : Int) ≤ IntKind.wrap .i64 (Int.tdiv (IntKind.wrap .i64 (lo5 + hi6)) (2 : Int)) then (if IntKind.wrap .i64 (Int.tdiv (IntKind.wrap .i64 (lo5 + hi6)) (2 : Int)) < (↑(List.length l0) : Int) then (if Decidable.decide (List.getD l0 (Int.toNat (IntKind.wrap .i64 (Int.tdiv (IntKind.wrap .i64 (lo5 + hi6)) (2 : Int)))) (0 : Int) < u1) = Bool.true then k ((l0, u1, IntKind.wrap .i64 (IntKind.wrap .i64 (Int.tdiv (IntKind.wrap .i64 (lo5 + hi6)) (2 : Int)) + (1 : Int)), hi6, ()), (()))
 else k ((l0, u1, lo5, IntKind.wrap .i64 (Int.tdiv (IntKind.wrap .i64 (lo5 + hi6)) (2 : Int)), ()), (())))
 else none)
 else none)
 else kx (((lo5, ()), (()))))
noncomputable def rd3 : Rd (VO s3) (Xs x3) := fun v k kx => match v with
  | ((l0, u1, lo5, hi6, _), _) => R3 l0 u1 lo5 hi6 k kx
noncomputable def F3 (l0 : (List Int)) (u1 : Int) (lo5 : Int) (hi6 : Int) : Option X3 := finOf rd3 ((l0, u1, lo5, hi6, ()), (()))
theorem F3_inv {l0 : (List Int)} {u1 : Int} (I : Int → Int → Prop) (μ : Int → Int → Nat) (Q : X3 → Prop) (h : ∀ (lo5 : Int) (hi6 : Int), I lo5 hi6 → Led (fun (R : Type) (k : V3 → Option R) (kx : X3 → Option R) => R3 l0 u1 lo5 hi6 k kx) (fun v => ∃ (lo5' : Int) (hi6' : Int), v = ((l0, u1, lo5', hi6', ()), ()) ∧ I lo5' hi6' ∧ μ lo5' hi6' < μ lo5 hi6) Q) : ∀ (lo5 : Int) (hi6 : Int), I lo5 hi6 → ∃ z, F3 l0 u1 lo5 hi6 = some z ∧ Q z := fun lo5 hi6 hi => by
  refine finOf_inv (V := V3) (X := X3) (rd := rd3) (fun v => ∃ (lo5' : Int) (hi6' : Int), v = ((l0, u1, lo5', hi6', ()), ()) ∧ I lo5' hi6') (fun v => match v with
    | ((l0, u1, lo5, hi6, _), _) => μ lo5 hi6) Q (fun v hv => ?_) ((l0, u1, lo5, hi6, ()), ()) ⟨lo5, hi6, rfl, hi⟩
  obtain ⟨lo5, hi6, rfl, hi⟩ := hv
  refine led_mono (h lo5 hi6 hi) ?_ (fun _ q => q)
  rintro v ⟨lo5', hi6', rfl, h1, h2⟩
  exact ⟨⟨lo5', hi6', rfl, h1⟩, h2⟩
noncomputable def L3 : Lp := ⟨3, ⟨[(0, none), (1, none), (5, none), (6, none)]⟩, s3, x3, fun v => match v with
  | ((l0, u1, lo5, hi6, _), _) => F3 l0 u1 lo5 hi6⟩
theorem ends3 : Ends L3 rd3 := ends_fin (fun v => by
  obtain ⟨⟨l0, u1, lo5, hi6, _⟩, ⟨_⟩⟩ := v
  rfl)
noncomputable def env : Env := mkEnv tab [] 0 [] [L3]
theorem round3 : RoundIs env (sub [true, true, true, false, false, false] code) L3 rd3 := fun R v k kx => by kernel_rfl
abbrev D : Type := (Int × Unit)
noncomputable def run' (l0 : (List Int)) (u1 : Int) : Option D := (match F3 (l0) (u1) ((0 : Int)) ((↑(List.length l0) : Int)) with
  | some (((lo5_1, _), _)) => some (lo5_1, ())
  | none => none)
noncomputable def run (d : Ds (List.map PM.ty ps)) : Option (Ds (muts ps ++ List.map PM.ty rs)) := match d with
  | (l0, u1, _) => run' l0 u1
theorem run_is : ∀ d, runF env 27 code [4] ps rs d = run d := fun d => by kernel_rfl
theorem loops : LoopsOk env code := loopsOk_of (l := [[true, true, true, false, false, false]]) (by kernel_rfl) (fun p hp => by
  simp only [List.mem_cons, List.not_mem_nil, or_false] at hp
  rcases hp with rfl
  · exact loopOk_lp (L := L3) (x := sub [true, true, true, false, false, false] code) (by kernel_rfl) (by simp [L3]) round3 ends3
  )
noncomputable def pre (l0 : (List Int)) (u1 : Int) : Bool := (run' l0 u1).isSome
noncomputable def fn (l0 : (List Int)) (u1 : Int) : D := match run' l0 u1 with
  | some x => x
  | none => default
noncomputable def sig : Sig := ⟨ps, rs, fun d => match d with
  | (l0, u1, _) => pre l0 u1, fun d => match d with
  | (l0, u1, _) => fn l0 u1, false⟩
theorem run_fn (l0 : (List Int)) (u1 : Int) (h : pre l0 u1 = true) : run' l0 u1 = some (fn l0 u1) := by
  unfold pre at h
  unfold fn
  cases e : run' l0 u1 with
  | some x => rfl
  | none => rw [e] at h; cases h
theorem is_fn (l0 : (List Int)) (u1 : Int) {x : D} (h : run' l0 u1 = some x) : pre l0 u1 = true ∧ fn l0 u1 = x := by
  unfold pre fn
  rw [h]
  exact ⟨rfl, rfl⟩
theorem sound {ρ : Obs} (hE : EnvOk Go.Proofs.Try.prog ρ env) : Sound Go.Proofs.Try.prog ρ 145 sig := sound_of (fn := Go.Proofs.Try.f145) (c := code) (res := [4]) hE (by kernel_rfl) (by kernel_rfl) (by kernel_rfl) (by kernel_rfl) (by kernel_rfl) loops rfl (show 2 ≤ 27 by decide) (fun d hd => (run_is d).trans (by
  obtain ⟨l0, u1, _⟩ := d
  exact run_fn l0 u1 hd))
theorem enters : Enters Go.Proofs.Try.prog 145 := enters_of (fn := Go.Proofs.Try.f145) (by kernel_rfl) (by kernel_rfl) (by kernel_rfl)
theorem ok {ρ : Obs} (h : ∀ p ∈ ([] : List (FuncId × Sig)), Enters Go.Proofs.Try.prog p.1 ∧ Sound Go.Proofs.Try.prog ρ p.1 p.2) : Enters Go.Proofs.Try.prog 145 ∧ Sound Go.Proofs.Try.prog ρ 145 sig := ⟨enters, sound (envOk_of tabOk h)⟩
theorem okR : Enters Go.Proofs.Try.prog 145 ∧ Sound Go.Proofs.Try.prog rho 145 sig := ok (fun p hp => by
  cases hp)
end at5
/-! pith/pithref5.stands -/
namespace stands5
abbrev ps : List PM := [.val (.list I64), .val I64]
abbrev rs : List PM := [.val .bool]
noncomputable abbrev code : Code := (Go.Proofs.Try.f125.body.getD .skip)
noncomputable def env : Env := mkEnv tab [(145, at5.sig)] 0 [] []
abbrev D : Type := (Bool × Unit)
noncomputable def run' (l0 : (List Int)) (u1 : Int) : Option D := (if at5.pre l0 u1 = Bool.true then (if Decidable.decide ((at5.fn l0 u1).1 < (↑(List.length l0) : Int)) = Bool.true then (if (0 : Int) ≤ (at5.fn l0 u1).1 then (if (at5.fn l0 u1).1 < (↑(List.length l0) : Int) then some (List.getD l0 (Int.toNat (at5.fn l0 u1).1) (0 : Int) == u1, ())
 else none)
 else none)
 else some (Bool.false, ()))
 else none)
noncomputable def run (d : Ds (List.map PM.ty ps)) : Option (Ds (muts ps ++ List.map PM.ty rs)) := match d with
  | (l0, u1, _) => run' l0 u1
theorem run_is : ∀ d, runF env 21 code [4] ps rs d = run d := fun d => by kernel_rfl
theorem loops : LoopsOk env code := loopsOk_of (l := []) (by kernel_rfl) (fun p hp => by
  cases hp)
noncomputable def pre (l0 : (List Int)) (u1 : Int) : Bool := (run' l0 u1).isSome
noncomputable def fn (l0 : (List Int)) (u1 : Int) : D := match run' l0 u1 with
  | some x => x
  | none => default
noncomputable def sig : Sig := ⟨ps, rs, fun d => match d with
  | (l0, u1, _) => pre l0 u1, fun d => match d with
  | (l0, u1, _) => fn l0 u1, false⟩
theorem run_fn (l0 : (List Int)) (u1 : Int) (h : pre l0 u1 = true) : run' l0 u1 = some (fn l0 u1) := by
  unfold pre at h
  unfold fn
  cases e : run' l0 u1 with
  | some x => rfl
  | none => rw [e] at h; cases h
theorem is_fn (l0 : (List Int)) (u1 : Int) {x : D} (h : run' l0 u1 = some x) : pre l0 u1 = true ∧ fn l0 u1 = x := by
  unfold pre fn
  rw [h]
  exact ⟨rfl, rfl⟩
theorem sound {ρ : Obs} (hE : EnvOk Go.Proofs.Try.prog ρ env) : Sound Go.Proofs.Try.prog ρ 125 sig := sound_of (fn := Go.Proofs.Try.f125) (c := code) (res := [4]) hE (by kernel_rfl) (by kernel_rfl) (by kernel_rfl) (by kernel_rfl) (by kernel_rfl) loops rfl (show 2 ≤ 21 by decide) (fun d hd => (run_is d).trans (by
  obtain ⟨l0, u1, _⟩ := d
  exact run_fn l0 u1 hd))
theorem enters : Enters Go.Proofs.Try.prog 125 := enters_of (fn := Go.Proofs.Try.f125) (by kernel_rfl) (by kernel_rfl) (by kernel_rfl)
theorem ok {ρ : Obs} (h : ∀ p ∈ ([(145, at5.sig)] : List (FuncId × Sig)), Enters Go.Proofs.Try.prog p.1 ∧ Sound Go.Proofs.Try.prog ρ p.1 p.2) : Enters Go.Proofs.Try.prog 125 ∧ Sound Go.Proofs.Try.prog ρ 125 sig := ⟨enters, sound (envOk_of tabOk h)⟩
theorem okR : Enters Go.Proofs.Try.prog 125 ∧ Sound Go.Proofs.Try.prog rho 125 sig := ok (fun p hp => by
  simp only [List.mem_cons, List.not_mem_nil, or_false] at hp
  rcases hp with rfl
  · exact at5.okR)
end stands5
/-! pith/pithref5.with -/
namespace with5
abbrev ps : List PM := [.val (.list I64), .val I64]
abbrev rs : List PM := [.val (.list I64)]
noncomputable abbrev code : Code := (Go.Proofs.Try.f147.body.getD .skip)
noncomputable def env : Env := mkEnv tab [(145, at5.sig)] 0 [] []
abbrev D : Type := ((List Int) × Unit)
noncomputable def run' (l0 : (List Int)) (u1 : Int) : Option D := (if at5.pre l0 u1 = Bool.true then (if Decidable.decide ((at5.fn l0 u1).1 < (↑(List.length l0) : Int)) = Bool.true then (if (0 : Int) ≤ (at5.fn l0 u1).1 then (if (at5.fn l0 u1).1 < (↑(List.length l0) : Int) then (if (List.getD l0 (Int.toNat (at5.fn l0 u1).1) (0 : Int) == u1) = Bool.true then some (l0, ())
 else (if (0 : Int) ≤ IntKind.wrap .i64 ((↑(List.length l0) : Int) + (1 : Int)) then (if Int.toNat (IntKind.wrap .i64 ((↑(List.length l0) : Int) + (1 : Int))) * (8 : Nat) ≤ (140737488355328 : Nat) then (if (0 : Int) ≤ (at5.fn l0 u1).1 then (if (at5.fn l0 u1).1 ≤ (↑(List.length l0) : Int) then (if ((0 : Nat) + List.length (List.take (Int.toNat (at5.fn l0 u1).1) l0)) * (8 : Nat) ≤ (140737488355328 : Nat) then (if (List.length ([] ++ List.take (Int.toNat (at5.fn l0 u1).1) l0) + List.length [u1]) * (8 : Nat) ≤ (140737488355328 : Nat) then (if (0 : Int) ≤ (at5.fn l0 u1).1 then (if (at5.fn l0 u1).1 ≤ (↑(List.length l0) : Int) then (if (List.length ([] ++ List.take (Int.toNat (at5.fn l0 u1).1) l0 ++ [u1]) + List.length (List.drop (Int.toNat (at5.fn l0 u1).1) l0)) * (8 : Nat) ≤ (140737488355328 : Nat) then some ([] ++ List.take (Int.toNat (at5.fn l0 u1).1) l0 ++ [u1] ++ List.drop (Int.toNat (at5.fn l0 u1).1) l0, ())
 else none)
 else none)
 else none)
 else none)
 else none)
 else none)
 else none)
 else none)
 else none))
 else none)
 else none)
 else (if (0 : Int) ≤ IntKind.wrap .i64 ((↑(List.length l0) : Int) + (1 : Int)) then (if Int.toNat (IntKind.wrap .i64 ((↑(List.length l0) : Int) + (1 : Int))) * (8 : Nat) ≤ (140737488355328 : Nat) then (if (0 : Int) ≤ (at5.fn l0 u1).1 then (if (at5.fn l0 u1).1 ≤ (↑(List.length l0) : Int) then (if ((0 : Nat) + List.length (List.take (Int.toNat (at5.fn l0 u1).1) l0)) * (8 : Nat) ≤ (140737488355328 : Nat) then (if (List.length ([] ++ List.take (Int.toNat (at5.fn l0 u1).1) l0) + List.length [u1]) * (8 : Nat) ≤ (140737488355328 : Nat) then (if (0 : Int) ≤ (at5.fn l0 u1).1 then (if (at5.fn l0 u1).1 ≤ (↑(List.length l0) : Int) then (if (List.length ([] ++ List.take (Int.toNat (at5.fn l0 u1).1) l0 ++ [u1]) + List.length (List.drop (Int.toNat (at5.fn l0 u1).1) l0)) * (8 : Nat) ≤ (140737488355328 : Nat) then some ([] ++ List.take (Int.toNat (at5.fn l0 u1).1) l0 ++ [u1] ++ List.drop (Int.toNat (at5.fn l0 u1).1) l0, ())
 else none)
 else none)
 else none)
 else none)
 else none)
 else none)
 else none)
 else none)
 else none))
 else none)
noncomputable def run (d : Ds (List.map PM.ty ps)) : Option (Ds (muts ps ++ List.map PM.ty rs)) := match d with
  | (l0, u1, _) => run' l0 u1
theorem run_is : ∀ d, runF env 41 code [4] ps rs d = run d := fun d => by kernel_rfl
theorem loops : LoopsOk env code := loopsOk_of (l := []) (by kernel_rfl) (fun p hp => by
  cases hp)
noncomputable def pre (l0 : (List Int)) (u1 : Int) : Bool := (run' l0 u1).isSome
noncomputable def fn (l0 : (List Int)) (u1 : Int) : D := match run' l0 u1 with
  | some x => x
  | none => default
noncomputable def sig : Sig := ⟨ps, rs, fun d => match d with
  | (l0, u1, _) => pre l0 u1, fun d => match d with
  | (l0, u1, _) => fn l0 u1, false⟩
theorem run_fn (l0 : (List Int)) (u1 : Int) (h : pre l0 u1 = true) : run' l0 u1 = some (fn l0 u1) := by
  unfold pre at h
  unfold fn
  cases e : run' l0 u1 with
  | some x => rfl
  | none => rw [e] at h; cases h
theorem is_fn (l0 : (List Int)) (u1 : Int) {x : D} (h : run' l0 u1 = some x) : pre l0 u1 = true ∧ fn l0 u1 = x := by
  unfold pre fn
  rw [h]
  exact ⟨rfl, rfl⟩
theorem sound {ρ : Obs} (hE : EnvOk Go.Proofs.Try.prog ρ env) : Sound Go.Proofs.Try.prog ρ 147 sig := sound_of (fn := Go.Proofs.Try.f147) (c := code) (res := [4]) hE (by kernel_rfl) (by kernel_rfl) (by kernel_rfl) (by kernel_rfl) (by kernel_rfl) loops rfl (show 2 ≤ 41 by decide) (fun d hd => (run_is d).trans (by
  obtain ⟨l0, u1, _⟩ := d
  exact run_fn l0 u1 hd))
theorem enters : Enters Go.Proofs.Try.prog 147 := enters_of (fn := Go.Proofs.Try.f147) (by kernel_rfl) (by kernel_rfl) (by kernel_rfl)
theorem ok {ρ : Obs} (h : ∀ p ∈ ([(145, at5.sig)] : List (FuncId × Sig)), Enters Go.Proofs.Try.prog p.1 ∧ Sound Go.Proofs.Try.prog ρ p.1 p.2) : Enters Go.Proofs.Try.prog 147 ∧ Sound Go.Proofs.Try.prog ρ 147 sig := ⟨enters, sound (envOk_of tabOk h)⟩
theorem okR : Enters Go.Proofs.Try.prog 147 ∧ Sound Go.Proofs.Try.prog rho 147 sig := ok (fun p hp => by
  simp only [List.mem_cons, List.not_mem_nil, or_false] at hp
  rcases hp with rfl
  · exact at5.okR)
end with5
/-! pith/pithref5.without -/
namespace wout5
abbrev ps : List PM := [.val (.list I64), .val I64]
abbrev rs : List PM := [.val (.list I64)]
noncomputable abbrev code : Code := (Go.Proofs.Try.f146.body.getD .skip)
abbrev s3 : Shape := ⟨[.v (.list I64), .v I64, .un, .un, .un, .row 0, .v I64, .un, .un, .un, .un, .un, .un, .un, .un, .un, .un, .un, .un, .un, .un, .un, .un, .un, .un, .un, .un], [.row (3 : Go.TypeId) I64]⟩
abbrev x3 : List Way := [⟨(.ex 0), ⟨[(5, some (.inl ((3 : Go.TypeId), I64)))]⟩, ⟨[.un, .un, .un, .un, .un, .row 0, .un, .un, .un, .un, .un, .un, .un, .un, .un, .un, .un, .un, .un, .un, .un, .un, .un, .un, .un, .un, .un], [.row (3 : Go.TypeId) I64]⟩⟩]
abbrev V3 : Type := ((List Int) × Int × Int × Unit) × ((List Int) × Unit)
abbrev X3 : Type := (Unit) × ((List Int) × Unit)
noncomputable def R3 {R : Type} (l0 : (List Int)) (u1 : Int) (i6 : Int) (r0 : List Int) (k : V3 → Option R) (kx : X3 → Option R) : Option R := (if Decidable.decide (i6 < (↑(List.length l0) : Int)) = Bool.true then (if (0 : Int) ≤ i6 then (if i6 < (↑(List.length l0) : Int) then (if (List.getD l0 (Int.toNat i6) (0 : Int) != u1) = Bool.true then (if (0 : Int) ≤ i6 then (if i6 < (↑(List.length l0) : Int) then (if (List.length r0 + List.length [List.getD l0 (Int.toNat i6) (0 : Int)]) * (8 : Nat) ≤ (140737488355328 : Nat) then k ((l0, u1, IntKind.wrap .i64 (i6 + (1 : Int)), ()), (r0 ++ [List.getD l0 (Int.toNat i6) (0 : Int)], ()))
 else none)
 else none)
 else none)
 else k ((l0, u1, IntKind.wrap .i64 (i6 + (1 : Int)), ()), (r0, ())))
 else none)
 else none)
 else kx (((()), (r0, ()))))
noncomputable def rd3 : Rd (VO s3) (Xs x3) := fun v k kx => match v with
  | ((l0, u1, i6, _), (r0, _)) => R3 l0 u1 i6 r0 k kx
noncomputable def F3 (l0 : (List Int)) (u1 : Int) (i6 : Int) (r0 : List Int) : Option X3 := finOf rd3 ((l0, u1, i6, ()), (r0, ()))
theorem F3_inv {l0 : (List Int)} {u1 : Int} (I : Int → List Int → Prop) (μ : Int → List Int → Nat) (Q : X3 → Prop) (h : ∀ (i6 : Int) (r0 : List Int), I i6 r0 → Led (fun (R : Type) (k : V3 → Option R) (kx : X3 → Option R) => R3 l0 u1 i6 r0 k kx) (fun v => ∃ (i6' : Int) (r0' : List Int), v = ((l0, u1, i6', ()), (r0', ())) ∧ I i6' r0' ∧ μ i6' r0' < μ i6 r0) Q) : ∀ (i6 : Int) (r0 : List Int), I i6 r0 → ∃ z, F3 l0 u1 i6 r0 = some z ∧ Q z := fun i6 r0 hi => by
  refine finOf_inv (V := V3) (X := X3) (rd := rd3) (fun v => ∃ (i6' : Int) (r0' : List Int), v = ((l0, u1, i6', ()), (r0', ())) ∧ I i6' r0') (fun v => match v with
    | ((l0, u1, i6, _), (r0, _)) => μ i6 r0) Q (fun v hv => ?_) ((l0, u1, i6, ()), (r0, ())) ⟨i6, r0, rfl, hi⟩
  obtain ⟨i6, r0, rfl, hi⟩ := hv
  refine led_mono (h i6 r0 hi) ?_ (fun _ q => q)
  rintro v ⟨i6', r0', rfl, h1, h2⟩
  exact ⟨⟨i6', r0', rfl, h1⟩, h2⟩
noncomputable def L3 : Lp := ⟨3, ⟨[(0, none), (1, none), (5, some (.inl ((3 : Go.TypeId), I64))), (6, none)]⟩, s3, x3, fun v => match v with
  | ((l0, u1, i6, _), (r0, _)) => F3 l0 u1 i6 r0⟩
theorem ends3 : Ends L3 rd3 := ends_fin (fun v => by
  obtain ⟨⟨l0, u1, i6, _⟩, ⟨r0, _⟩⟩ := v
  rfl)
noncomputable def env : Env := mkEnv tab [] 0 [] [L3]
theorem round3 : RoundIs env (sub [true, true, false, true, false, false] code) L3 rd3 := fun R v k kx => by kernel_rfl
abbrev D : Type := ((List Int) × Unit)
noncomputable def run' (l0 : (List Int)) (u1 : Int) : Option D := (match F3 (l0) (u1) ((0 : Int)) ([]) with
  | some ((_, (r0_1, _))) => some (r0_1, ())
  | none => none)
noncomputable def run (d : Ds (List.map PM.ty ps)) : Option (Ds (muts ps ++ List.map PM.ty rs)) := match d with
  | (l0, u1, _) => run' l0 u1
theorem run_is : ∀ d, runF env 27 code [4] ps rs d = run d := fun d => by kernel_rfl
theorem loops : LoopsOk env code := loopsOk_of (l := [[true, true, false, true, false, false]]) (by kernel_rfl) (fun p hp => by
  simp only [List.mem_cons, List.not_mem_nil, or_false] at hp
  rcases hp with rfl
  · exact loopOk_lp (L := L3) (x := sub [true, true, false, true, false, false] code) (by kernel_rfl) (by simp [L3]) round3 ends3
  )
noncomputable def pre (l0 : (List Int)) (u1 : Int) : Bool := (run' l0 u1).isSome
noncomputable def fn (l0 : (List Int)) (u1 : Int) : D := match run' l0 u1 with
  | some x => x
  | none => default
noncomputable def sig : Sig := ⟨ps, rs, fun d => match d with
  | (l0, u1, _) => pre l0 u1, fun d => match d with
  | (l0, u1, _) => fn l0 u1, false⟩
theorem run_fn (l0 : (List Int)) (u1 : Int) (h : pre l0 u1 = true) : run' l0 u1 = some (fn l0 u1) := by
  unfold pre at h
  unfold fn
  cases e : run' l0 u1 with
  | some x => rfl
  | none => rw [e] at h; cases h
theorem is_fn (l0 : (List Int)) (u1 : Int) {x : D} (h : run' l0 u1 = some x) : pre l0 u1 = true ∧ fn l0 u1 = x := by
  unfold pre fn
  rw [h]
  exact ⟨rfl, rfl⟩
theorem sound {ρ : Obs} (hE : EnvOk Go.Proofs.Try.prog ρ env) : Sound Go.Proofs.Try.prog ρ 146 sig := sound_of (fn := Go.Proofs.Try.f146) (c := code) (res := [4]) hE (by kernel_rfl) (by kernel_rfl) (by kernel_rfl) (by kernel_rfl) (by kernel_rfl) loops rfl (show 2 ≤ 27 by decide) (fun d hd => (run_is d).trans (by
  obtain ⟨l0, u1, _⟩ := d
  exact run_fn l0 u1 hd))
theorem enters : Enters Go.Proofs.Try.prog 146 := enters_of (fn := Go.Proofs.Try.f146) (by kernel_rfl) (by kernel_rfl) (by kernel_rfl)
theorem ok {ρ : Obs} (h : ∀ p ∈ ([] : List (FuncId × Sig)), Enters Go.Proofs.Try.prog p.1 ∧ Sound Go.Proofs.Try.prog ρ p.1 p.2) : Enters Go.Proofs.Try.prog 146 ∧ Sound Go.Proofs.Try.prog ρ 146 sig := ⟨enters, sound (envOk_of tabOk h)⟩
theorem okR : Enters Go.Proofs.Try.prog 146 ∧ Sound Go.Proofs.Try.prog rho 146 sig := ok (fun p hp => by
  cases hp)
end wout5
/-! (*pith/pithref5.Graph).joins -/
namespace joins5
abbrev ps : List PM := [.bx 126 [.r 25 (.list I64) false], .val I64, .val I64]
abbrev rs : List PM := []
noncomputable abbrev code : Code := (Go.Proofs.Try.f123.body.getD .skip)
noncomputable def env : Env := mkEnv tab [(147, with5.sig)] 2 [(1, [0, 1, 2, 3, 4, 5, 6, 7, 8, 9, 10, 11, 12, 13, 14, 15]), (2, [0, 1, 2, 3, 4, 5, 6, 7, 8, 9, 10, 11, 12, 13, 14, 15])] []
abbrev D : Type := (((List (List Int)) × Bool) × Unit)
noncomputable def run' (g0_0 : (List (List Int))) (u1 : Int) (v2 : Int) : Option D := (if (u1 != v2) = Bool.true then (if (0 : Int) ≤ u1 then (if u1 < (↑(List.length g0_0) : Int) then (if with5.pre (List.getD g0_0 (Int.toNat u1) []) v2 = Bool.true then (if (0 : Int) ≤ u1 then (if u1 < (↑(List.length g0_0) : Int) then (if Int.toNat u1 < List.length g0_0 then (if (0 : Int) ≤ v2 then (if v2 < (↑(List.length (List.set g0_0 (Int.toNat u1) (with5.fn (List.getD g0_0 (Int.toNat u1) []) v2).1)) : Int) then (if with5.pre (List.getD (List.set g0_0 (Int.toNat u1) (with5.fn (List.getD g0_0 (Int.toNat u1) []) v2).1) (Int.toNat v2) []) u1 = Bool.true then (if (0 : Int) ≤ v2 then (if v2 < (↑(List.length (List.set g0_0 (Int.toNat u1) (with5.fn (List.getD g0_0 (Int.toNat u1) []) v2).1)) : Int) then (if Int.toNat v2 < List.length (List.set g0_0 (Int.toNat u1) (with5.fn (List.getD g0_0 (Int.toNat u1) []) v2).1) then some ((List.set (List.set g0_0 (Int.toNat u1) (with5.fn (List.getD g0_0 (Int.toNat u1) []) v2).1) (Int.toNat v2) (with5.fn (List.getD (List.set g0_0 (Int.toNat u1) (with5.fn (List.getD g0_0 (Int.toNat u1) []) v2).1) (Int.toNat v2) []) u1).1, Bool.false), ())
 else none)
 else none)
 else none)
 else none)
 else none)
 else none)
 else none)
 else none)
 else none)
 else none)
 else none)
 else none)
 else some ((g0_0, Bool.false), ()))
noncomputable def run (d : Ds (List.map PM.ty ps)) : Option (Ds (muts ps ++ List.map PM.ty rs)) := match d with
  | ((g0_0, _), u1, v2, _) => run' g0_0 u1 v2
theorem run_is : ∀ d, runF env 39 code [] ps rs d = run d := fun d => by kernel_rfl
theorem loops : LoopsOk env code := loopsOk_of (l := []) (by kernel_rfl) (fun p hp => by
  cases hp)
noncomputable def pre (g0_0 : (List (List Int))) (u1 : Int) (v2 : Int) : Bool := (run' g0_0 u1 v2).isSome
noncomputable def fn (g0_0 : (List (List Int))) (u1 : Int) (v2 : Int) : D := match run' g0_0 u1 v2 with
  | some x => x
  | none => default
noncomputable def sig : Sig := ⟨ps, rs, fun d => match d with
  | ((g0_0, _), u1, v2, _) => pre g0_0 u1 v2, fun d => match d with
  | ((g0_0, _), u1, v2, _) => fn g0_0 u1 v2, false⟩
theorem run_fn (g0_0 : (List (List Int))) (u1 : Int) (v2 : Int) (h : pre g0_0 u1 v2 = true) : run' g0_0 u1 v2 = some (fn g0_0 u1 v2) := by
  unfold pre at h
  unfold fn
  cases e : run' g0_0 u1 v2 with
  | some x => rfl
  | none => rw [e] at h; cases h
theorem is_fn (g0_0 : (List (List Int))) (u1 : Int) (v2 : Int) {x : D} (h : run' g0_0 u1 v2 = some x) : pre g0_0 u1 v2 = true ∧ fn g0_0 u1 v2 = x := by
  unfold pre fn
  rw [h]
  exact ⟨rfl, rfl⟩
theorem sound {ρ : Obs} (hE : EnvOk Go.Proofs.Try.prog ρ env) : Sound Go.Proofs.Try.prog ρ 123 sig := sound_of (fn := Go.Proofs.Try.f123) (c := code) (res := []) hE (by kernel_rfl) (by kernel_rfl) (by kernel_rfl) (by kernel_rfl) (by kernel_rfl) loops rfl (show 3 ≤ 39 by decide) (fun d hd => (run_is d).trans (by
  obtain ⟨⟨g0_0, _⟩, u1, v2, _⟩ := d
  exact run_fn g0_0 u1 v2 hd))
theorem enters : Enters Go.Proofs.Try.prog 123 := enters_of (fn := Go.Proofs.Try.f123) (by kernel_rfl) (by kernel_rfl) (by kernel_rfl)
theorem ok {ρ : Obs} (h : ∀ p ∈ ([(147, with5.sig)] : List (FuncId × Sig)), Enters Go.Proofs.Try.prog p.1 ∧ Sound Go.Proofs.Try.prog ρ p.1 p.2) : Enters Go.Proofs.Try.prog 123 ∧ Sound Go.Proofs.Try.prog ρ 123 sig := ⟨enters, sound (envOk_of tabOk h)⟩
theorem okR : Enters Go.Proofs.Try.prog 123 ∧ Sound Go.Proofs.Try.prog rho 123 sig := ok (fun p hp => by
  simp only [List.mem_cons, List.not_mem_nil, or_false] at hp
  rcases hp with rfl
  · exact with5.okR)
end joins5
/-! (*pith/pithref5.Graph).parts -/
namespace cuts5
abbrev ps : List PM := [.bx 126 [.r 25 (.list I64) false], .val I64, .val I64]
abbrev rs : List PM := []
noncomputable abbrev code : Code := (Go.Proofs.Try.f122.body.getD .skip)
noncomputable def env : Env := mkEnv tab [(146, wout5.sig)] 2 [(1, [0, 1, 2, 3, 4, 5, 6, 7, 8, 9, 10, 11, 12, 13, 14, 15]), (2, [0, 1, 2, 3, 4, 5, 6, 7, 8, 9, 10, 11, 12, 13, 14, 15])] []
abbrev D : Type := (((List (List Int)) × Bool) × Unit)
noncomputable def run' (g0_0 : (List (List Int))) (u1 : Int) (v2 : Int) : Option D := (if (u1 != v2) = Bool.true then (if (0 : Int) ≤ u1 then (if u1 < (↑(List.length g0_0) : Int) then (if wout5.pre (List.getD g0_0 (Int.toNat u1) []) v2 = Bool.true then (if (0 : Int) ≤ u1 then (if u1 < (↑(List.length g0_0) : Int) then (if Int.toNat u1 < List.length g0_0 then (if (0 : Int) ≤ v2 then (if v2 < (↑(List.length (List.set g0_0 (Int.toNat u1) (wout5.fn (List.getD g0_0 (Int.toNat u1) []) v2).1)) : Int) then (if wout5.pre (List.getD (List.set g0_0 (Int.toNat u1) (wout5.fn (List.getD g0_0 (Int.toNat u1) []) v2).1) (Int.toNat v2) []) u1 = Bool.true then (if (0 : Int) ≤ v2 then (if v2 < (↑(List.length (List.set g0_0 (Int.toNat u1) (wout5.fn (List.getD g0_0 (Int.toNat u1) []) v2).1)) : Int) then (if Int.toNat v2 < List.length (List.set g0_0 (Int.toNat u1) (wout5.fn (List.getD g0_0 (Int.toNat u1) []) v2).1) then some ((List.set (List.set g0_0 (Int.toNat u1) (wout5.fn (List.getD g0_0 (Int.toNat u1) []) v2).1) (Int.toNat v2) (wout5.fn (List.getD (List.set g0_0 (Int.toNat u1) (wout5.fn (List.getD g0_0 (Int.toNat u1) []) v2).1) (Int.toNat v2) []) u1).1, Bool.false), ())
 else none)
 else none)
 else none)
 else none)
 else none)
 else none)
 else none)
 else none)
 else none)
 else none)
 else none)
 else none)
 else some ((g0_0, Bool.false), ()))
noncomputable def run (d : Ds (List.map PM.ty ps)) : Option (Ds (muts ps ++ List.map PM.ty rs)) := match d with
  | ((g0_0, _), u1, v2, _) => run' g0_0 u1 v2
theorem run_is : ∀ d, runF env 39 code [] ps rs d = run d := fun d => by kernel_rfl
theorem loops : LoopsOk env code := loopsOk_of (l := []) (by kernel_rfl) (fun p hp => by
  cases hp)
noncomputable def pre (g0_0 : (List (List Int))) (u1 : Int) (v2 : Int) : Bool := (run' g0_0 u1 v2).isSome
noncomputable def fn (g0_0 : (List (List Int))) (u1 : Int) (v2 : Int) : D := match run' g0_0 u1 v2 with
  | some x => x
  | none => default
noncomputable def sig : Sig := ⟨ps, rs, fun d => match d with
  | ((g0_0, _), u1, v2, _) => pre g0_0 u1 v2, fun d => match d with
  | ((g0_0, _), u1, v2, _) => fn g0_0 u1 v2, false⟩
theorem run_fn (g0_0 : (List (List Int))) (u1 : Int) (v2 : Int) (h : pre g0_0 u1 v2 = true) : run' g0_0 u1 v2 = some (fn g0_0 u1 v2) := by
  unfold pre at h
  unfold fn
  cases e : run' g0_0 u1 v2 with
  | some x => rfl
  | none => rw [e] at h; cases h
theorem is_fn (g0_0 : (List (List Int))) (u1 : Int) (v2 : Int) {x : D} (h : run' g0_0 u1 v2 = some x) : pre g0_0 u1 v2 = true ∧ fn g0_0 u1 v2 = x := by
  unfold pre fn
  rw [h]
  exact ⟨rfl, rfl⟩
theorem sound {ρ : Obs} (hE : EnvOk Go.Proofs.Try.prog ρ env) : Sound Go.Proofs.Try.prog ρ 122 sig := sound_of (fn := Go.Proofs.Try.f122) (c := code) (res := []) hE (by kernel_rfl) (by kernel_rfl) (by kernel_rfl) (by kernel_rfl) (by kernel_rfl) loops rfl (show 3 ≤ 39 by decide) (fun d hd => (run_is d).trans (by
  obtain ⟨⟨g0_0, _⟩, u1, v2, _⟩ := d
  exact run_fn g0_0 u1 v2 hd))
theorem enters : Enters Go.Proofs.Try.prog 122 := enters_of (fn := Go.Proofs.Try.f122) (by kernel_rfl) (by kernel_rfl) (by kernel_rfl)
theorem ok {ρ : Obs} (h : ∀ p ∈ ([(146, wout5.sig)] : List (FuncId × Sig)), Enters Go.Proofs.Try.prog p.1 ∧ Sound Go.Proofs.Try.prog ρ p.1 p.2) : Enters Go.Proofs.Try.prog 122 ∧ Sound Go.Proofs.Try.prog ρ 122 sig := ⟨enters, sound (envOk_of tabOk h)⟩
theorem okR : Enters Go.Proofs.Try.prog 122 ∧ Sound Go.Proofs.Try.prog rho 122 sig := ok (fun p hp => by
  simp only [List.mem_cons, List.not_mem_nil, or_false] at hp
  rcases hp with rfl
  · exact wout5.okR)
end cuts5
/-! pith/pithref5.Make -/
namespace Make5
abbrev ps : List PM := [.val I64, .val (.list Pr)]
abbrev rs : List PM := [.val (.ptr Rf), .val I64]
noncomputable abbrev code : Code := (Go.Proofs.Try.f112.body.getD .skip)
abbrev s4 : Shape := ⟨[.v I64, .v (.list (.pair I64 I64)), .un, .un, .un, .un, .v I64, .un, .un, .un, .un, .un, .un, .un, .un, .un, .un, .un, .un, .un, .un, .un, .un, .un, .un, .un, .un, .un, .un, .un, .un, .un, .un, .un, .un, .un, .un, .un, .un, .un, .un, .un, .un, .un, .un, .un, .un, .un, .un, .un, .un, .un, .un, .un, .un, .un, .un, .un, .un, .un, .un, .un, .un, .un, .un, .un], []⟩
abbrev x4 : List Way := [⟨.rt, ⟨[(4, none), (5, none)]⟩, ⟨[.un, .un, .un, .un, .nlp, .v I64, .un, .un, .un, .un, .un, .un, .un, .un, .un, .un, .un, .un, .un, .un, .un, .un, .un, .un, .un, .un, .un, .un, .un, .un, .un, .un, .un, .un, .un, .un, .un, .un, .un, .un, .un, .un, .un, .un, .un, .un, .un, .un, .un, .un, .un, .un, .un, .un, .un, .un, .un, .un, .un, .un, .un, .un, .un, .un, .un, .un], []⟩⟩, ⟨(.ex 0), ⟨[(0, none), (1, none)]⟩, ⟨[.v I64, .v (.list (.pair I64 I64)), .un, .un, .un, .un, .un, .un, .un, .un, .un, .un, .un, .un, .un, .un, .un, .un, .un, .un, .un, .un, .un, .un, .un, .un, .un, .un, .un, .un, .un, .un, .un, .un, .un, .un, .un, .un, .un, .un, .un, .un, .un, .un, .un, .un, .un, .un, .un, .un, .un, .un, .un, .un, .un, .un, .un, .un, .un, .un, .un, .un, .un, .un, .un, .un], []⟩⟩]
abbrev V4 : Type := (Int × (List (Int × Int)) × Int × Unit) × (Unit)
abbrev X4 : Type := ((Int × Unit) × (Unit)) ⊕ ((Int × (List (Int × Int)) × Unit) × (Unit))
noncomputable def R4 {R : Type} (n0 : Int) (pairs1 : (List (Int × Int))) (i6 : Int) (k : V4 → Option R) (kx : X4 → Option R) : Option R := (if Decidable.decide (i6 < (↑(List.length pairs1) : Int)) = Bool.true then (if (0 : Int) ≤ i6 then (if i6 < (↑(List.length pairs1) : Int) then (if in5.pre (List.getD pairs1 (Int.toNat i6) ((0 : Int), (0 : Int))).1 n0 = Bool.true then (if (0 : Int) ≤ i6 then (if i6 < (↑(List.length pairs1) : Int) then (if in5.pre (List.getD pairs1 (Int.toNat i6) ((0 : Int), (0 : Int))).2 n0 = Bool.true then (if (!(in5.fn (List.getD pairs1 (Int.toNat i6) ((0 : Int), (0 : Int))).1 n0).1) = Bool.false then (if (!(in5.fn (List.getD pairs1 (Int.toNat i6) ((0 : Int), (0 : Int))).2 n0).1) = Bool.true then kx (Sum.inl <| (((42 : Int), ()), (())))
 else k ((n0, pairs1, IntKind.wrap .i64 (i6 + (1 : Int)), ()), (())))
 else kx (Sum.inl <| (((42 : Int), ()), (()))))
 else none)
 else none)
 else none)
 else none)
 else none)
 else none)
 else kx (Sum.inr <| ((n0, pairs1, ()), (()))))
noncomputable def rd4 : Rd (VO s4) (Xs x4) := fun v k kx => match v with
  | ((n0, pairs1, i6, _), _) => R4 n0 pairs1 i6 k kx
noncomputable def F4 (n0 : Int) (pairs1 : (List (Int × Int))) (i6 : Int) : Option X4 := finOf rd4 ((n0, pairs1, i6, ()), (()))
theorem F4_inv {n0 : Int} {pairs1 : (List (Int × Int))} (I : Int → Prop) (μ : Int → Nat) (Q : X4 → Prop) (h : ∀ (i6 : Int), I i6 → Led (fun (R : Type) (k : V4 → Option R) (kx : X4 → Option R) => R4 n0 pairs1 i6 k kx) (fun v => ∃ (i6' : Int), v = ((n0, pairs1, i6', ()), ()) ∧ I i6' ∧ μ i6' < μ i6) Q) : ∀ (i6 : Int), I i6 → ∃ z, F4 n0 pairs1 i6 = some z ∧ Q z := fun i6 hi => by
  refine finOf_inv (V := V4) (X := X4) (rd := rd4) (fun v => ∃ (i6' : Int), v = ((n0, pairs1, i6', ()), ()) ∧ I i6') (fun v => match v with
    | ((n0, pairs1, i6, _), _) => μ i6) Q (fun v hv => ?_) ((n0, pairs1, i6, ()), ()) ⟨i6, rfl, hi⟩
  obtain ⟨i6, rfl, hi⟩ := hv
  refine led_mono (h i6 hi) ?_ (fun _ q => q)
  rintro v ⟨i6', rfl, h1, h2⟩
  exact ⟨⟨i6', rfl, h1⟩, h2⟩
noncomputable def L4 : Lp := ⟨4, ⟨[(0, none), (1, none), (6, none)]⟩, s4, x4, fun v => match v with
  | ((n0, pairs1, i6, _), _) => F4 n0 pairs1 i6⟩
theorem ends4 : Ends L4 rd4 := ends_fin (fun v => by
  obtain ⟨⟨n0, pairs1, i6, _⟩, ⟨_⟩⟩ := v
  rfl)
abbrev s12 : Shape := ⟨[.un, .v (.list (.pair I64 I64)), .un, .un, .un, .un, .un, .un, .un, .box 0 0, .v I64, .un, .un, .un, .un, .un, .un, .un, .un, .un, .un, .un, .un, .un, .un, .un, .un, .un, .un, .un, .un, .un, .un, .un, .un, .un, .un, .un, .un, .un, .un, .un, .un, .un, .un, .un, .un, .un, .un, .un, .un, .un, .un, .un, .un, .un, .un, .un, .un, .un, .un, .un, .un, .un, .un, .un], [.cells (126 : Go.TypeId) [.row 1], .row (25 : Go.TypeId) (.list I64)]⟩
abbrev x12 : List Way := [⟨(.ex 2), ⟨[(9, none)]⟩, ⟨[.un, .un, .un, .un, .un, .un, .un, .un, .un, .box 0 0, .un, .un, .un, .un, .un, .un, .un, .un, .un, .un, .un, .un, .un, .un, .un, .un, .un, .un, .un, .un, .un, .un, .un, .un, .un, .un, .un, .un, .un, .un, .un, .un, .un, .un, .un, .un, .un, .un, .un, .un, .un, .un, .un, .un, .un, .un, .un, .un, .un, .un, .un, .un, .un, .un, .un, .un], [.cells (126 : Go.TypeId) [.row 1], .row (25 : Go.TypeId) (.list I64)]⟩⟩]
abbrev V12 : Type := ((List (Int × Int)) × Int × Unit) × ((Unit) × (List (List Int)) × Unit)
abbrev X12 : Type := (Unit) × ((Unit) × (List (List Int)) × Unit)
noncomputable def R12 {R : Type} (pairs1 : (List (Int × Int))) (i10 : Int) (r1 : List (List Int)) (k : V12 → Option R) (kx : X12 → Option R) : Option R := (if Decidable.decide (i10 < (↑(List.length pairs1) : Int)) = Bool.true then (if (0 : Int) ≤ i10 then (if i10 < (↑(List.length pairs1) : Int) then (if (0 : Int) ≤ i10 then (if i10 < (↑(List.length pairs1) : Int) then (if joins5.pre r1 (List.getD pairs1 (Int.toNat i10) ((0 : Int), (0 : Int))).1 (List.getD pairs1 (Int.toNat i10) ((0 : Int), (0 : Int))).2 = Bool.true then k ((pairs1, IntKind.wrap .i64 (i10 + (1 : Int)), ()), ((()), (joins5.fn r1 (List.getD pairs1 (Int.toNat i10) ((0 : Int), (0 : Int))).1 (List.getD pairs1 (Int.toNat i10) ((0 : Int), (0 : Int))).2).1.1, ()))
 else none)
 else none)
 else none)
 else none)
 else none)
 else kx (((()), ((()), r1, ()))))
noncomputable def rd12 : Rd (VO s12) (Xs x12) := fun v k kx => match v with
  | ((pairs1, i10, _), (_, r1, _)) => R12 pairs1 i10 r1 k kx
noncomputable def F12 (pairs1 : (List (Int × Int))) (i10 : Int) (r1 : List (List Int)) : Option X12 := finOf rd12 ((pairs1, i10, ()), ((()), r1, ()))
theorem F12_inv {pairs1 : (List (Int × Int))} (I : Int → List (List Int) → Prop) (μ : Int → List (List Int) → Nat) (Q : X12 → Prop) (h : ∀ (i10 : Int) (r1 : List (List Int)), I i10 r1 → Led (fun (R : Type) (k : V12 → Option R) (kx : X12 → Option R) => R12 pairs1 i10 r1 k kx) (fun v => ∃ (i10' : Int) (r1' : List (List Int)), v = ((pairs1, i10', ()), ((), r1', ())) ∧ I i10' r1' ∧ μ i10' r1' < μ i10 r1) Q) : ∀ (i10 : Int) (r1 : List (List Int)), I i10 r1 → ∃ z, F12 pairs1 i10 r1 = some z ∧ Q z := fun i10 r1 hi => by
  refine finOf_inv (V := V12) (X := X12) (rd := rd12) (fun v => ∃ (i10' : Int) (r1' : List (List Int)), v = ((pairs1, i10', ()), ((), r1', ())) ∧ I i10' r1') (fun v => match v with
    | ((pairs1, i10, _), (_, r1, _)) => μ i10 r1) Q (fun v hv => ?_) ((pairs1, i10, ()), ((), r1, ())) ⟨i10, r1, rfl, hi⟩
  obtain ⟨i10, r1, rfl, hi⟩ := hv
  refine led_mono (h i10 r1 hi) ?_ (fun _ q => q)
  rintro v ⟨i10', r1', rfl, h1, h2⟩
  exact ⟨⟨i10', r1', rfl, h1⟩, h2⟩
noncomputable def L12 : Lp := ⟨12, ⟨[(1, none), (9, none), (10, none)]⟩, s12, x12, fun v => match v with
  | ((pairs1, i10, _), (_, r1, _)) => F12 pairs1 i10 r1⟩
theorem ends12 : Ends L12 rd12 := ends_fin (fun v => by
  obtain ⟨⟨pairs1, i10, _⟩, ⟨⟨_⟩, r1, _⟩⟩ := v
  rfl)
noncomputable def env : Env := mkEnv tab [(120, in5.sig), (123, joins5.sig)] 0 [(14, [0, 1, 2, 3, 4, 5, 6, 7, 8, 9, 10, 11])] [L4, L12]
theorem round4 : RoundIs env (sub [true, true, false, true, false, false] code) L4 rd4 := fun R v k kx => by kernel_rfl
theorem round12 : RoundIs env (sub [true, true, true, true, false, true, false, false] code) L12 rd12 := fun R v k kx => by kernel_rfl
abbrev D : Type := ((Option (List (List Int))) × Int × Unit)
noncomputable def run' (n0 : Int) (pairs1 : (List (Int × Int))) : Option D := (if Decidable.decide (n0 < (0 : Int)) = Bool.false then (if Decidable.decide (n0 > (16777216 : Int)) = Bool.true then some (Option.none, (41 : Int), ())
 else (match F4 (n0) (pairs1) ((0 : Int)) with
  | some (Sum.inl <| ((t5_1, _), _)) => some (Option.none, t5_1, ())
  | some (Sum.inr <| ((n0_2, pairs1_2, _), _)) => (if n0_2 = n0_2 then (if (0 : Int) ≤ n0_2 then (if Int.toNat n0_2 * (24 : Nat) ≤ (140737488355328 : Nat) then (match F12 (pairs1_2) ((0 : Int)) (List.replicate (Int.toNat n0_2) []) with
  | some ((_, (_, r1_3, _))) => some (Option.some r1_3, (0 : Int), ())
  | none => none)
 else none)
 else none)
 else none)
  | none => none))
 else some (Option.none, (41 : Int), ()))
noncomputable def run (d : Ds (List.map PM.ty ps)) : Option (Ds (muts ps ++ List.map PM.ty rs)) := match d with
  | (n0, pairs1, _) => run' n0 pairs1
theorem run_is : ∀ d, runF env 66 code [4, 5] ps rs d = run d := fun d => by kernel_rfl
theorem loops : LoopsOk env code := loopsOk_of (l := [[true, true, false, true, false, false], [true, true, true, true, false, true, false, false]]) (by kernel_rfl) (fun p hp => by
  simp only [List.mem_cons, List.not_mem_nil, or_false] at hp
  rcases hp with rfl | rfl
  · exact loopOk_lp (L := L4) (x := sub [true, true, false, true, false, false] code) (by kernel_rfl) (by simp [L4]) round4 ends4
  · exact loopOk_lp (L := L12) (x := sub [true, true, true, true, false, true, false, false] code) (by kernel_rfl) (by simp [L12]) round12 ends12
  )
noncomputable def pre (n0 : Int) (pairs1 : (List (Int × Int))) : Bool := (run' n0 pairs1).isSome
noncomputable def fn (n0 : Int) (pairs1 : (List (Int × Int))) : D := match run' n0 pairs1 with
  | some x => x
  | none => default
noncomputable def sig : Sig := ⟨ps, rs, fun d => match d with
  | (n0, pairs1, _) => pre n0 pairs1, fun d => match d with
  | (n0, pairs1, _) => fn n0 pairs1, false⟩
theorem run_fn (n0 : Int) (pairs1 : (List (Int × Int))) (h : pre n0 pairs1 = true) : run' n0 pairs1 = some (fn n0 pairs1) := by
  unfold pre at h
  unfold fn
  cases e : run' n0 pairs1 with
  | some x => rfl
  | none => rw [e] at h; cases h
theorem is_fn (n0 : Int) (pairs1 : (List (Int × Int))) {x : D} (h : run' n0 pairs1 = some x) : pre n0 pairs1 = true ∧ fn n0 pairs1 = x := by
  unfold pre fn
  rw [h]
  exact ⟨rfl, rfl⟩
theorem sound {ρ : Obs} (hE : EnvOk Go.Proofs.Try.prog ρ env) : Sound Go.Proofs.Try.prog ρ 112 sig := sound_of (fn := Go.Proofs.Try.f112) (c := code) (res := [4, 5]) hE (by kernel_rfl) (by kernel_rfl) (by kernel_rfl) (by kernel_rfl) (by kernel_rfl) loops rfl (show 2 ≤ 66 by decide) (fun d hd => (run_is d).trans (by
  obtain ⟨n0, pairs1, _⟩ := d
  exact run_fn n0 pairs1 hd))
theorem enters : Enters Go.Proofs.Try.prog 112 := enters_of (fn := Go.Proofs.Try.f112) (by kernel_rfl) (by kernel_rfl) (by kernel_rfl)
theorem ok {ρ : Obs} (h : ∀ p ∈ ([(120, in5.sig), (123, joins5.sig)] : List (FuncId × Sig)), Enters Go.Proofs.Try.prog p.1 ∧ Sound Go.Proofs.Try.prog ρ p.1 p.2) : Enters Go.Proofs.Try.prog 112 ∧ Sound Go.Proofs.Try.prog ρ 112 sig := ⟨enters, sound (envOk_of tabOk h)⟩
theorem okR : Enters Go.Proofs.Try.prog 112 ∧ Sound Go.Proofs.Try.prog rho 112 sig := ok (fun p hp => by
  simp only [List.mem_cons, List.not_mem_nil, or_false] at hp
  rcases hp with rfl | rfl
  · exact in5.okR
  · exact joins5.okR)
end Make5
/-! (*pith/pithref5.Graph).N -/
namespace N5
abbrev ps : List PM := [.val (.ptr Rf)]
abbrev rs : List PM := [.val I64]
noncomputable abbrev code : Code := (Go.Proofs.Try.f114.body.getD .skip)
noncomputable def env : Env := mkEnv tab [] 0 [] []
abbrev D : Type := (Int × Unit)
noncomputable def run' (g0 : (Option (List (List Int)))) : Option D := (if Option.isSome g0 = Bool.true then some ((↑(List.length (Option.getD g0 [])) : Int), ())
 else none)
noncomputable def run (d : Ds (List.map PM.ty ps)) : Option (Ds (muts ps ++ List.map PM.ty rs)) := match d with
  | (g0, _) => run' g0
theorem run_is : ∀ d, runF env 8 code [2] ps rs d = run d := fun d => by kernel_rfl
theorem loops : LoopsOk env code := loopsOk_of (l := []) (by kernel_rfl) (fun p hp => by
  cases hp)
noncomputable def pre (g0 : (Option (List (List Int)))) : Bool := (run' g0).isSome
noncomputable def fn (g0 : (Option (List (List Int)))) : D := match run' g0 with
  | some x => x
  | none => default
noncomputable def sig : Sig := ⟨ps, rs, fun d => match d with
  | (g0, _) => pre g0, fun d => match d with
  | (g0, _) => fn g0, false⟩
theorem run_fn (g0 : (Option (List (List Int)))) (h : pre g0 = true) : run' g0 = some (fn g0) := by
  unfold pre at h
  unfold fn
  cases e : run' g0 with
  | some x => rfl
  | none => rw [e] at h; cases h
theorem is_fn (g0 : (Option (List (List Int)))) {x : D} (h : run' g0 = some x) : pre g0 = true ∧ fn g0 = x := by
  unfold pre fn
  rw [h]
  exact ⟨rfl, rfl⟩
theorem sound {ρ : Obs} (hE : EnvOk Go.Proofs.Try.prog ρ env) : Sound Go.Proofs.Try.prog ρ 114 sig := sound_of (fn := Go.Proofs.Try.f114) (c := code) (res := [2]) hE (by kernel_rfl) (by kernel_rfl) (by kernel_rfl) (by kernel_rfl) (by kernel_rfl) loops rfl (show 1 ≤ 8 by decide) (fun d hd => (run_is d).trans (by
  obtain ⟨g0, _⟩ := d
  exact run_fn g0 hd))
theorem enters : Enters Go.Proofs.Try.prog 114 := enters_of (fn := Go.Proofs.Try.f114) (by kernel_rfl) (by kernel_rfl) (by kernel_rfl)
theorem ok {ρ : Obs} (h : ∀ p ∈ ([] : List (FuncId × Sig)), Enters Go.Proofs.Try.prog p.1 ∧ Sound Go.Proofs.Try.prog ρ p.1 p.2) : Enters Go.Proofs.Try.prog 114 ∧ Sound Go.Proofs.Try.prog ρ 114 sig := ⟨enters, sound (envOk_of tabOk h)⟩
theorem okR : Enters Go.Proofs.Try.prog 114 ∧ Sound Go.Proofs.Try.prog rho 114 sig := ok (fun p hp => by
  cases hp)
end N5
/-! (*pith/pithref5.Graph).Edges -/
namespace Edges5
abbrev ps : List PM := [.val (.ptr Rf)]
abbrev rs : List PM := [.val I64]
noncomputable abbrev code : Code := (Go.Proofs.Try.f115.body.getD .skip)
abbrev s3 : Shape := ⟨[.v (.ptr (.one (.list (.list I64)))), .un, .un, .v I64, .v I64, .un, .un, .un, .un, .un, .un, .un, .un, .un, .un, .un, .un, .un, .un, .un, .un, .un, .un, .un, .un, .un], []⟩
abbrev x3 : List Way := [⟨(.ex 0), ⟨[(3, none)]⟩, ⟨[.un, .un, .un, .v I64, .un, .un, .un, .un, .un, .un, .un, .un, .un, .un, .un, .un, .un, .un, .un, .un, .un, .un, .un, .un, .un, .un], []⟩⟩]
abbrev V3 : Type := ((Option (List (List Int))) × Int × Int × Unit) × (Unit)
abbrev X3 : Type := (Int × Unit) × (Unit)
noncomputable def R3 {R : Type} (g0 : (Option (List (List Int)))) (n3 : Int) (v4 : Int) (k : V3 → Option R) (kx : X3 → Option R) : Option R := (if Option.isSome g0 = Bool.true then (if Decidable.decide (v4 < (↑(List.length (Option.getD g0 [])) : Int)) = Bool.true then (if Option.isSome g0 = Bool.true then (if (0 : Int) ≤ v4 then (if v4 < (↑(List.length (Option.getD g0 [])) : Int) then k ((g0, IntKind.wrap .i64 (n3 + (↑(List.length (List.getD (Option.getD g0 []) (Int.toNat v4) [])) : Int)), IntKind.wrap .i64 (v4 + (1 : Int)), ()), (()))
 else none)
 else none)
 else none)
 else kx (((n3, ()), (()))))
 else none)
noncomputable def rd3 : Rd (VO s3) (Xs x3) := fun v k kx => match v with
  | ((g0, n3, v4, _), _) => R3 g0 n3 v4 k kx
noncomputable def F3 (g0 : (Option (List (List Int)))) (n3 : Int) (v4 : Int) : Option X3 := finOf rd3 ((g0, n3, v4, ()), (()))
theorem F3_inv {g0 : (Option (List (List Int)))} (I : Int → Int → Prop) (μ : Int → Int → Nat) (Q : X3 → Prop) (h : ∀ (n3 : Int) (v4 : Int), I n3 v4 → Led (fun (R : Type) (k : V3 → Option R) (kx : X3 → Option R) => R3 g0 n3 v4 k kx) (fun v => ∃ (n3' : Int) (v4' : Int), v = ((g0, n3', v4', ()), ()) ∧ I n3' v4' ∧ μ n3' v4' < μ n3 v4) Q) : ∀ (n3 : Int) (v4 : Int), I n3 v4 → ∃ z, F3 g0 n3 v4 = some z ∧ Q z := fun n3 v4 hi => by
  refine finOf_inv (V := V3) (X := X3) (rd := rd3) (fun v => ∃ (n3' : Int) (v4' : Int), v = ((g0, n3', v4', ()), ()) ∧ I n3' v4') (fun v => match v with
    | ((g0, n3, v4, _), _) => μ n3 v4) Q (fun v hv => ?_) ((g0, n3, v4, ()), ()) ⟨n3, v4, rfl, hi⟩
  obtain ⟨n3, v4, rfl, hi⟩ := hv
  refine led_mono (h n3 v4 hi) ?_ (fun _ q => q)
  rintro v ⟨n3', v4', rfl, h1, h2⟩
  exact ⟨⟨n3', v4', rfl, h1⟩, h2⟩
noncomputable def L3 : Lp := ⟨3, ⟨[(0, none), (3, none), (4, none)]⟩, s3, x3, fun v => match v with
  | ((g0, n3, v4, _), _) => F3 g0 n3 v4⟩
theorem ends3 : Ends L3 rd3 := ends_fin (fun v => by
  obtain ⟨⟨g0, n3, v4, _⟩, ⟨_⟩⟩ := v
  rfl)
noncomputable def env : Env := mkEnv tab [] 0 [] [L3]
theorem round3 : RoundIs env (sub [true, true, false, true, false, false] code) L3 rd3 := fun R v k kx => by kernel_rfl
abbrev D : Type := (Int × Unit)
noncomputable def run' (g0 : (Option (List (List Int)))) : Option D := (match F3 (g0) ((0 : Int)) ((0 : Int)) with
  | some (((n3_1, _), _)) => some (IntKind.wrap .i64 (Int.tdiv n3_1 (2 : Int)), ())
  | none => none)
noncomputable def run (d : Ds (List.map PM.ty ps)) : Option (Ds (muts ps ++ List.map PM.ty rs)) := match d with
  | (g0, _) => run' g0
theorem run_is : ∀ d, runF env 26 code [2] ps rs d = run d := fun d => by kernel_rfl
theorem loops : LoopsOk env code := loopsOk_of (l := [[true, true, false, true, false, false]]) (by kernel_rfl) (fun p hp => by
  simp only [List.mem_cons, List.not_mem_nil, or_false] at hp
  rcases hp with rfl
  · exact loopOk_lp (L := L3) (x := sub [true, true, false, true, false, false] code) (by kernel_rfl) (by simp [L3]) round3 ends3
  )
noncomputable def pre (g0 : (Option (List (List Int)))) : Bool := (run' g0).isSome
noncomputable def fn (g0 : (Option (List (List Int)))) : D := match run' g0 with
  | some x => x
  | none => default
noncomputable def sig : Sig := ⟨ps, rs, fun d => match d with
  | (g0, _) => pre g0, fun d => match d with
  | (g0, _) => fn g0, false⟩
theorem run_fn (g0 : (Option (List (List Int)))) (h : pre g0 = true) : run' g0 = some (fn g0) := by
  unfold pre at h
  unfold fn
  cases e : run' g0 with
  | some x => rfl
  | none => rw [e] at h; cases h
theorem is_fn (g0 : (Option (List (List Int)))) {x : D} (h : run' g0 = some x) : pre g0 = true ∧ fn g0 = x := by
  unfold pre fn
  rw [h]
  exact ⟨rfl, rfl⟩
theorem sound {ρ : Obs} (hE : EnvOk Go.Proofs.Try.prog ρ env) : Sound Go.Proofs.Try.prog ρ 115 sig := sound_of (fn := Go.Proofs.Try.f115) (c := code) (res := [2]) hE (by kernel_rfl) (by kernel_rfl) (by kernel_rfl) (by kernel_rfl) (by kernel_rfl) loops rfl (show 1 ≤ 26 by decide) (fun d hd => (run_is d).trans (by
  obtain ⟨g0, _⟩ := d
  exact run_fn g0 hd))
theorem enters : Enters Go.Proofs.Try.prog 115 := enters_of (fn := Go.Proofs.Try.f115) (by kernel_rfl) (by kernel_rfl) (by kernel_rfl)
theorem ok {ρ : Obs} (h : ∀ p ∈ ([] : List (FuncId × Sig)), Enters Go.Proofs.Try.prog p.1 ∧ Sound Go.Proofs.Try.prog ρ p.1 p.2) : Enters Go.Proofs.Try.prog 115 ∧ Sound Go.Proofs.Try.prog ρ 115 sig := ⟨enters, sound (envOk_of tabOk h)⟩
theorem okR : Enters Go.Proofs.Try.prog 115 ∧ Sound Go.Proofs.Try.prog rho 115 sig := ok (fun p hp => by
  cases hp)
end Edges5
/-! (*pith/pithref5.Graph).Neighbours -/
namespace Nb5
abbrev ps : List PM := [.val (.ptr Rf), .val I64]
abbrev rs : List PM := [.val (.list I64)]
noncomputable abbrev code : Code := (Go.Proofs.Try.f59.body.getD .skip)
noncomputable def env : Env := mkEnv tab [(120, in5.sig), (67, IntsO.sig)] 0 [] []
abbrev D : Type := ((List Int) × Unit)
noncomputable def run' (g0 : (Option (List (List Int)))) (v1 : Int) : Option D := (if Option.isSome g0 = Bool.true then (if in5.pre v1 (↑(List.length (Option.getD g0 [])) : Int) = Bool.true then (if (!(in5.fn v1 (↑(List.length (Option.getD g0 [])) : Int)).1) = Bool.true then some ([], ())
 else (if Option.isSome g0 = Bool.true then (if (0 : Int) ≤ v1 then (if v1 < (↑(List.length (Option.getD g0 [])) : Int) then (if IntsO.pre (List.getD (Option.getD g0 []) (Int.toNat v1) []) = Bool.true then some ((IntsO.fn (List.getD (Option.getD g0 []) (Int.toNat v1) [])).1, ())
 else none)
 else none)
 else none)
 else none))
 else none)
 else none)
noncomputable def run (d : Ds (List.map PM.ty ps)) : Option (Ds (muts ps ++ List.map PM.ty rs)) := match d with
  | (g0, v1, _) => run' g0 v1
theorem run_is : ∀ d, runF env 23 code [4] ps rs d = run d := fun d => by kernel_rfl
theorem loops : LoopsOk env code := loopsOk_of (l := []) (by kernel_rfl) (fun p hp => by
  cases hp)
noncomputable def pre (g0 : (Option (List (List Int)))) (v1 : Int) : Bool := (run' g0 v1).isSome
noncomputable def fn (g0 : (Option (List (List Int)))) (v1 : Int) : D := match run' g0 v1 with
  | some x => x
  | none => default
noncomputable def sig : Sig := ⟨ps, rs, fun d => match d with
  | (g0, v1, _) => pre g0 v1, fun d => match d with
  | (g0, v1, _) => fn g0 v1, false⟩
theorem run_fn (g0 : (Option (List (List Int)))) (v1 : Int) (h : pre g0 v1 = true) : run' g0 v1 = some (fn g0 v1) := by
  unfold pre at h
  unfold fn
  cases e : run' g0 v1 with
  | some x => rfl
  | none => rw [e] at h; cases h
theorem is_fn (g0 : (Option (List (List Int)))) (v1 : Int) {x : D} (h : run' g0 v1 = some x) : pre g0 v1 = true ∧ fn g0 v1 = x := by
  unfold pre fn
  rw [h]
  exact ⟨rfl, rfl⟩
theorem sound {ρ : Obs} (hE : EnvOk Go.Proofs.Try.prog ρ env) : Sound Go.Proofs.Try.prog ρ 59 sig := sound_of (fn := Go.Proofs.Try.f59) (c := code) (res := [4]) hE (by kernel_rfl) (by kernel_rfl) (by kernel_rfl) (by kernel_rfl) (by kernel_rfl) loops rfl (show 2 ≤ 23 by decide) (fun d hd => (run_is d).trans (by
  obtain ⟨g0, v1, _⟩ := d
  exact run_fn g0 v1 hd))
theorem enters : Enters Go.Proofs.Try.prog 59 := enters_of (fn := Go.Proofs.Try.f59) (by kernel_rfl) (by kernel_rfl) (by kernel_rfl)
theorem ok {ρ : Obs} (h : ∀ p ∈ ([(120, in5.sig), (67, IntsO.sig)] : List (FuncId × Sig)), Enters Go.Proofs.Try.prog p.1 ∧ Sound Go.Proofs.Try.prog ρ p.1 p.2) : Enters Go.Proofs.Try.prog 59 ∧ Sound Go.Proofs.Try.prog ρ 59 sig := ⟨enters, sound (envOk_of tabOk h)⟩
theorem okR : Enters Go.Proofs.Try.prog 59 ∧ Sound Go.Proofs.Try.prog rho 59 sig := ok (fun p hp => by
  simp only [List.mem_cons, List.not_mem_nil, or_false] at hp
  rcases hp with rfl | rfl
  · exact in5.okR
  · exact IntsO.okR)
end Nb5
/-! (*pith/pithref5.Graph).Has -/
namespace Has5
abbrev ps : List PM := [.val (.ptr Rf), .val I64, .val I64]
abbrev rs : List PM := [.val .bool]
noncomputable abbrev code : Code := (Go.Proofs.Try.f65.body.getD .skip)
noncomputable def env : Env := mkEnv tab [(120, in5.sig), (125, stands5.sig)] 0 [] []
abbrev D : Type := (Bool × Unit)
noncomputable def run' (g0 : (Option (List (List Int)))) (u1 : Int) (v2 : Int) : Option D := (if Option.isSome g0 = Bool.true then (if in5.pre u1 (↑(List.length (Option.getD g0 [])) : Int) = Bool.true then (if (in5.fn u1 (↑(List.length (Option.getD g0 [])) : Int)).1 = Bool.true then (if Option.isSome g0 = Bool.true then (if (0 : Int) ≤ u1 then (if u1 < (↑(List.length (Option.getD g0 [])) : Int) then (if stands5.pre (List.getD (Option.getD g0 []) (Int.toNat u1) []) v2 = Bool.true then some ((stands5.fn (List.getD (Option.getD g0 []) (Int.toNat u1) []) v2).1, ())
 else none)
 else none)
 else none)
 else none)
 else some (Bool.false, ()))
 else none)
 else none)
noncomputable def run (d : Ds (List.map PM.ty ps)) : Option (Ds (muts ps ++ List.map PM.ty rs)) := match d with
  | (g0, u1, v2, _) => run' g0 u1 v2
theorem run_is : ∀ d, runF env 27 code [6] ps rs d = run d := fun d => by kernel_rfl
theorem loops : LoopsOk env code := loopsOk_of (l := []) (by kernel_rfl) (fun p hp => by
  cases hp)
noncomputable def pre (g0 : (Option (List (List Int)))) (u1 : Int) (v2 : Int) : Bool := (run' g0 u1 v2).isSome
noncomputable def fn (g0 : (Option (List (List Int)))) (u1 : Int) (v2 : Int) : D := match run' g0 u1 v2 with
  | some x => x
  | none => default
noncomputable def sig : Sig := ⟨ps, rs, fun d => match d with
  | (g0, u1, v2, _) => pre g0 u1 v2, fun d => match d with
  | (g0, u1, v2, _) => fn g0 u1 v2, false⟩
theorem run_fn (g0 : (Option (List (List Int)))) (u1 : Int) (v2 : Int) (h : pre g0 u1 v2 = true) : run' g0 u1 v2 = some (fn g0 u1 v2) := by
  unfold pre at h
  unfold fn
  cases e : run' g0 u1 v2 with
  | some x => rfl
  | none => rw [e] at h; cases h
theorem is_fn (g0 : (Option (List (List Int)))) (u1 : Int) (v2 : Int) {x : D} (h : run' g0 u1 v2 = some x) : pre g0 u1 v2 = true ∧ fn g0 u1 v2 = x := by
  unfold pre fn
  rw [h]
  exact ⟨rfl, rfl⟩
theorem sound {ρ : Obs} (hE : EnvOk Go.Proofs.Try.prog ρ env) : Sound Go.Proofs.Try.prog ρ 65 sig := sound_of (fn := Go.Proofs.Try.f65) (c := code) (res := [6]) hE (by kernel_rfl) (by kernel_rfl) (by kernel_rfl) (by kernel_rfl) (by kernel_rfl) loops rfl (show 3 ≤ 27 by decide) (fun d hd => (run_is d).trans (by
  obtain ⟨g0, u1, v2, _⟩ := d
  exact run_fn g0 u1 v2 hd))
theorem enters : Enters Go.Proofs.Try.prog 65 := enters_of (fn := Go.Proofs.Try.f65) (by kernel_rfl) (by kernel_rfl) (by kernel_rfl)
theorem ok {ρ : Obs} (h : ∀ p ∈ ([(120, in5.sig), (125, stands5.sig)] : List (FuncId × Sig)), Enters Go.Proofs.Try.prog p.1 ∧ Sound Go.Proofs.Try.prog ρ p.1 p.2) : Enters Go.Proofs.Try.prog 65 ∧ Sound Go.Proofs.Try.prog ρ 65 sig := ⟨enters, sound (envOk_of tabOk h)⟩
theorem okR : Enters Go.Proofs.Try.prog 65 ∧ Sound Go.Proofs.Try.prog rho 65 sig := ok (fun p hp => by
  simp only [List.mem_cons, List.not_mem_nil, or_false] at hp
  rcases hp with rfl | rfl
  · exact in5.okR
  · exact stands5.okR)
end Has5
/-! (*pith/pithref5.Graph).Pairs -/
namespace Pairs5
abbrev ps : List PM := [.val (.ptr Rf)]
abbrev rs : List PM := [.val (.list Pr)]
noncomputable abbrev code : Code := (Go.Proofs.Try.f116.body.getD .skip)
abbrev s6 : Shape := ⟨[.v (.ptr (.one (.list (.list I64)))), .un, .un, .row 0, .v I64, .v I64, .un, .un, .un, .un, .un, .un, .un, .un, .un, .un, .un, .un, .un, .un, .un, .un, .un, .un, .un, .un, .un, .un, .un, .un, .un, .un, .un, .un, .un, .un, .un, .un, .un, .un, .un, .un, .un, .un, .un, .un, .un, .un, .un, .un, .un, .un], [.row (32 : Go.TypeId) (.pair I64 I64)]⟩
abbrev x6 : List Way := [⟨(.ex 2), ⟨[(0, none), (3, some (.inl ((32 : Go.TypeId), (.pair I64 I64)))), (4, none)]⟩, ⟨[.v (.ptr (.one (.list (.list I64)))), .un, .un, .row 0, .v I64, .un, .un, .un, .un, .un, .un, .un, .un, .un, .un, .un, .un, .un, .un, .un, .un, .un, .un, .un, .un, .un, .un, .un, .un, .un, .un, .un, .un, .un, .un, .un, .un, .un, .un, .un, .un, .un, .un, .un, .un, .un, .un, .un, .un, .un, .un, .un], [.row (32 : Go.TypeId) (.pair I64 I64)]⟩⟩]
abbrev V6 : Type := ((Option (List (List Int))) × Int × Int × Unit) × ((List (Int × Int)) × Unit)
abbrev X6 : Type := ((Option (List (List Int))) × Int × Unit) × ((List (Int × Int)) × Unit)
noncomputable def R6 {R : Type} (g0 : (Option (List (List Int)))) (u4 : Int) (i5 : Int) (r0 : List (Int × Int)) (k : V6 → Option R) (kx : X6 → Option R) : Option R := (if Option.isSome g0 = Bool.true then (if (0 : Int) ≤ u4 then (if u4 < (↑(List.length (Option.getD g0 [])) : Int) then (if Decidable.decide (i5 < (↑(List.length (List.getD (Option.getD g0 []) (Int.toNat u4) [])) : Int)) = Bool.true then (if Option.isSome g0 = Bool.true then (if (0 : Int) ≤ u4 then (if u4 < (↑(List.length (Option.getD g0 [])) : Int) then (if (0 : Int) ≤ i5 then (if i5 < (↑(List.length (List.getD (Option.getD g0 []) (Int.toNat u4) [])) : Int) then (if (List.length r0 + List.length [(u4, List.getD (List.getD (Option.getD g0 []) (Int.toNat u4) []) (Int.toNat i5) (0 : Int))]) * (16 : Nat) ≤ (140737488355328 : Nat) then k ((g0, u4, IntKind.wrap .i64 (i5 + (1 : Int)), ()), (r0 ++ [(u4, List.getD (List.getD (Option.getD g0 []) (Int.toNat u4) []) (Int.toNat i5) (0 : Int))], ()))
 else none)
 else none)
 else none)
 else none)
 else none)
 else none)
 else kx (((g0, u4, ()), (r0, ()))))
 else none)
 else none)
 else none)
noncomputable def rd6 : Rd (VO s6) (Xs x6) := fun v k kx => match v with
  | ((g0, u4, i5, _), (r0, _)) => R6 g0 u4 i5 r0 k kx
noncomputable def F6 (g0 : (Option (List (List Int)))) (u4 : Int) (i5 : Int) (r0 : List (Int × Int)) : Option X6 := finOf rd6 ((g0, u4, i5, ()), (r0, ()))
theorem F6_inv {g0 : (Option (List (List Int)))} {u4 : Int} (I : Int → List (Int × Int) → Prop) (μ : Int → List (Int × Int) → Nat) (Q : X6 → Prop) (h : ∀ (i5 : Int) (r0 : List (Int × Int)), I i5 r0 → Led (fun (R : Type) (k : V6 → Option R) (kx : X6 → Option R) => R6 g0 u4 i5 r0 k kx) (fun v => ∃ (i5' : Int) (r0' : List (Int × Int)), v = ((g0, u4, i5', ()), (r0', ())) ∧ I i5' r0' ∧ μ i5' r0' < μ i5 r0) Q) : ∀ (i5 : Int) (r0 : List (Int × Int)), I i5 r0 → ∃ z, F6 g0 u4 i5 r0 = some z ∧ Q z := fun i5 r0 hi => by
  refine finOf_inv (V := V6) (X := X6) (rd := rd6) (fun v => ∃ (i5' : Int) (r0' : List (Int × Int)), v = ((g0, u4, i5', ()), (r0', ())) ∧ I i5' r0') (fun v => match v with
    | ((g0, u4, i5, _), (r0, _)) => μ i5 r0) Q (fun v hv => ?_) ((g0, u4, i5, ()), (r0, ())) ⟨i5, r0, rfl, hi⟩
  obtain ⟨i5, r0, rfl, hi⟩ := hv
  refine led_mono (h i5 r0 hi) ?_ (fun _ q => q)
  rintro v ⟨i5', r0', rfl, h1, h2⟩
  exact ⟨⟨i5', r0', rfl, h1⟩, h2⟩
noncomputable def L6 : Lp := ⟨6, ⟨[(0, none), (3, some (.inl ((32 : Go.TypeId), (.pair I64 I64)))), (4, none), (5, none)]⟩, s6, x6, fun v => match v with
  | ((g0, u4, i5, _), (r0, _)) => F6 g0 u4 i5 r0⟩
theorem ends6 : Ends L6 rd6 := ends_fin (fun v => by
  obtain ⟨⟨g0, u4, i5, _⟩, ⟨r0, _⟩⟩ := v
  rfl)
abbrev s3 : Shape := ⟨[.v (.ptr (.one (.list (.list I64)))), .un, .un, .row 0, .v I64, .un, .un, .un, .un, .un, .un, .un, .un, .un, .un, .un, .un, .un, .un, .un, .un, .un, .un, .un, .un, .un, .un, .un, .un, .un, .un, .un, .un, .un, .un, .un, .un, .un, .un, .un, .un, .un, .un, .un, .un, .un, .un, .un, .un, .un, .un, .un], [.row (32 : Go.TypeId) (.pair I64 I64)]⟩
abbrev x3 : List Way := [⟨(.ex 0), ⟨[(3, some (.inl ((32 : Go.TypeId), (.pair I64 I64))))]⟩, ⟨[.un, .un, .un, .row 0, .un, .un, .un, .un, .un, .un, .un, .un, .un, .un, .un, .un, .un, .un, .un, .un, .un, .un, .un, .un, .un, .un, .un, .un, .un, .un, .un, .un, .un, .un, .un, .un, .un, .un, .un, .un, .un, .un, .un, .un, .un, .un, .un, .un, .un, .un, .un, .un], [.row (32 : Go.TypeId) (.pair I64 I64)]⟩⟩]
abbrev V3 : Type := ((Option (List (List Int))) × Int × Unit) × ((List (Int × Int)) × Unit)
abbrev X3 : Type := (Unit) × ((List (Int × Int)) × Unit)
noncomputable def R3 {R : Type} (g0 : (Option (List (List Int)))) (u4 : Int) (r0 : List (Int × Int)) (k : V3 → Option R) (kx : X3 → Option R) : Option R := (if Option.isSome g0 = Bool.true then (if Decidable.decide (u4 < (↑(List.length (Option.getD g0 [])) : Int)) = Bool.true then (if Option.isSome g0 = Bool.true then (if (0 : Int) ≤ u4 then (if u4 < (↑(List.length (Option.getD g0 [])) : Int) then (if at5.pre (List.getD (Option.getD g0 []) (Int.toNat u4) []) u4 = Bool.true then (match F6 (g0) (u4) ((at5.fn (List.getD (Option.getD g0 []) (Int.toNat u4) []) u4).1) (r0) with
  | some (((g0_1, u4_1, _), (r0_1, _))) => k ((g0_1, IntKind.wrap .i64 (u4_1 + (1 : Int)), ()), (r0_1, ()))
  | none => none)
 else none)
 else none)
 else none)
 else none)
 else kx (((()), (r0, ()))))
 else none)
noncomputable def rd3 : Rd (VO s3) (Xs x3) := fun v k kx => match v with
  | ((g0, u4, _), (r0, _)) => R3 g0 u4 r0 k kx
noncomputable def F3 (g0 : (Option (List (List Int)))) (u4 : Int) (r0 : List (Int × Int)) : Option X3 := finOf rd3 ((g0, u4, ()), (r0, ()))
theorem F3_inv {g0 : (Option (List (List Int)))} (I : Int → List (Int × Int) → Prop) (μ : Int → List (Int × Int) → Nat) (Q : X3 → Prop) (h : ∀ (u4 : Int) (r0 : List (Int × Int)), I u4 r0 → Led (fun (R : Type) (k : V3 → Option R) (kx : X3 → Option R) => R3 g0 u4 r0 k kx) (fun v => ∃ (u4' : Int) (r0' : List (Int × Int)), v = ((g0, u4', ()), (r0', ())) ∧ I u4' r0' ∧ μ u4' r0' < μ u4 r0) Q) : ∀ (u4 : Int) (r0 : List (Int × Int)), I u4 r0 → ∃ z, F3 g0 u4 r0 = some z ∧ Q z := fun u4 r0 hi => by
  refine finOf_inv (V := V3) (X := X3) (rd := rd3) (fun v => ∃ (u4' : Int) (r0' : List (Int × Int)), v = ((g0, u4', ()), (r0', ())) ∧ I u4' r0') (fun v => match v with
    | ((g0, u4, _), (r0, _)) => μ u4 r0) Q (fun v hv => ?_) ((g0, u4, ()), (r0, ())) ⟨u4, r0, rfl, hi⟩
  obtain ⟨u4, r0, rfl, hi⟩ := hv
  refine led_mono (h u4 r0 hi) ?_ (fun _ q => q)
  rintro v ⟨u4', r0', rfl, h1, h2⟩
  exact ⟨⟨u4', r0', rfl, h1⟩, h2⟩
noncomputable def L3 : Lp := ⟨3, ⟨[(0, none), (3, some (.inl ((32 : Go.TypeId), (.pair I64 I64)))), (4, none)]⟩, s3, x3, fun v => match v with
  | ((g0, u4, _), (r0, _)) => F3 g0 u4 r0⟩
theorem ends3 : Ends L3 rd3 := ends_fin (fun v => by
  obtain ⟨⟨g0, u4, _⟩, ⟨r0, _⟩⟩ := v
  rfl)
noncomputable def env : Env := mkEnv tab [(145, at5.sig)] 0 [] [L6, L3]
theorem round6 : RoundIs env (sub [true, true, false, true, false, false, true, false, false, true, false, false] code) L6 rd6 := fun R v k kx => by kernel_rfl
theorem round3 : RoundIs env (sub [true, true, false, true, false, false] code) L3 rd3 := fun R v k kx => by kernel_rfl
abbrev D : Type := ((List (Int × Int)) × Unit)
noncomputable def run' (g0 : (Option (List (List Int)))) : Option D := (match F3 (g0) ((0 : Int)) ([]) with
  | some ((_, (r0_2, _))) => some (r0_2, ())
  | none => none)
noncomputable def run (d : Ds (List.map PM.ty ps)) : Option (Ds (muts ps ++ List.map PM.ty rs)) := match d with
  | (g0, _) => run' g0
theorem run_is : ∀ d, runF env 52 code [2] ps rs d = run d := fun d => by kernel_rfl
theorem loops : LoopsOk env code := loopsOk_of (l := [[true, true, false, true, false, false], [true, true, false, true, false, false, true, false, false, true, false, false]]) (by kernel_rfl) (fun p hp => by
  simp only [List.mem_cons, List.not_mem_nil, or_false] at hp
  rcases hp with rfl | rfl
  · exact loopOk_lp (L := L3) (x := sub [true, true, false, true, false, false] code) (by kernel_rfl) (by simp [L3]) round3 ends3
  · exact loopOk_lp (L := L6) (x := sub [true, true, false, true, false, false, true, false, false, true, false, false] code) (by kernel_rfl) (by simp [L6]) round6 ends6
  )
noncomputable def pre (g0 : (Option (List (List Int)))) : Bool := (run' g0).isSome
noncomputable def fn (g0 : (Option (List (List Int)))) : D := match run' g0 with
  | some x => x
  | none => default
noncomputable def sig : Sig := ⟨ps, rs, fun d => match d with
  | (g0, _) => pre g0, fun d => match d with
  | (g0, _) => fn g0, false⟩
theorem run_fn (g0 : (Option (List (List Int)))) (h : pre g0 = true) : run' g0 = some (fn g0) := by
  unfold pre at h
  unfold fn
  cases e : run' g0 with
  | some x => rfl
  | none => rw [e] at h; cases h
theorem is_fn (g0 : (Option (List (List Int)))) {x : D} (h : run' g0 = some x) : pre g0 = true ∧ fn g0 = x := by
  unfold pre fn
  rw [h]
  exact ⟨rfl, rfl⟩
theorem sound {ρ : Obs} (hE : EnvOk Go.Proofs.Try.prog ρ env) : Sound Go.Proofs.Try.prog ρ 116 sig := sound_of (fn := Go.Proofs.Try.f116) (c := code) (res := [2]) hE (by kernel_rfl) (by kernel_rfl) (by kernel_rfl) (by kernel_rfl) (by kernel_rfl) loops rfl (show 1 ≤ 52 by decide) (fun d hd => (run_is d).trans (by
  obtain ⟨g0, _⟩ := d
  exact run_fn g0 hd))
theorem enters : Enters Go.Proofs.Try.prog 116 := enters_of (fn := Go.Proofs.Try.f116) (by kernel_rfl) (by kernel_rfl) (by kernel_rfl)
theorem ok {ρ : Obs} (h : ∀ p ∈ ([(145, at5.sig)] : List (FuncId × Sig)), Enters Go.Proofs.Try.prog p.1 ∧ Sound Go.Proofs.Try.prog ρ p.1 p.2) : Enters Go.Proofs.Try.prog 116 ∧ Sound Go.Proofs.Try.prog ρ 116 sig := ⟨enters, sound (envOk_of tabOk h)⟩
theorem okR : Enters Go.Proofs.Try.prog 116 ∧ Sound Go.Proofs.Try.prog rho 116 sig := ok (fun p hp => by
  simp only [List.mem_cons, List.not_mem_nil, or_false] at hp
  rcases hp with rfl
  · exact at5.okR)
end Pairs5
/-! (*pith/pithref5.Graph).Arcs -/
namespace Arcs5
abbrev ps : List PM := [.val (.ptr Rf), .val I64, .val I64]
abbrev rs : List PM := [.val (.list Pr)]
noncomputable abbrev code : Code := (Go.Proofs.Try.f61.body.getD .skip)
abbrev s6 : Shape := ⟨[.v (.ptr (.one (.list (.list I64)))), .un, .v I64, .un, .un, .un, .un, .row 0, .v I64, .v I64, .un, .un, .un, .un, .un, .un, .un, .un, .un, .un, .un, .un, .un, .un, .un, .un, .un, .un, .un, .un, .un, .un, .un, .un, .un, .un, .un, .un, .un, .un, .un, .un, .un, .un, .un, .un, .un, .un, .un, .un, .un], [.row (32 : Go.TypeId) (.pair I64 I64)]⟩
abbrev x6 : List Way := [⟨(.ex 2), ⟨[(0, none), (2, none), (7, some (.inl ((32 : Go.TypeId), (.pair I64 I64)))), (8, none)]⟩, ⟨[.v (.ptr (.one (.list (.list I64)))), .un, .v I64, .un, .un, .un, .un, .row 0, .v I64, .un, .un, .un, .un, .un, .un, .un, .un, .un, .un, .un, .un, .un, .un, .un, .un, .un, .un, .un, .un, .un, .un, .un, .un, .un, .un, .un, .un, .un, .un, .un, .un, .un, .un, .un, .un, .un, .un, .un, .un, .un, .un], [.row (32 : Go.TypeId) (.pair I64 I64)]⟩⟩]
abbrev V6 : Type := ((Option (List (List Int))) × Int × Int × Int × Unit) × ((List (Int × Int)) × Unit)
abbrev X6 : Type := ((Option (List (List Int))) × Int × Int × Unit) × ((List (Int × Int)) × Unit)
noncomputable def R6 {R : Type} (g0 : (Option (List (List Int)))) (to2 : Int) (u8 : Int) (i9 : Int) (r0 : List (Int × Int)) (k : V6 → Option R) (kx : X6 → Option R) : Option R := (if Option.isSome g0 = Bool.true then (if (0 : Int) ≤ u8 then (if u8 < (↑(List.length (Option.getD g0 [])) : Int) then (if Decidable.decide (i9 < (↑(List.length (List.getD (Option.getD g0 []) (Int.toNat u8) [])) : Int)) = Bool.true then (if Option.isSome g0 = Bool.true then (if (0 : Int) ≤ u8 then (if u8 < (↑(List.length (Option.getD g0 [])) : Int) then (if (0 : Int) ≤ i9 then (if i9 < (↑(List.length (List.getD (Option.getD g0 []) (Int.toNat u8) [])) : Int) then (if (List.length r0 + List.length [(u8, List.getD (List.getD (Option.getD g0 []) (Int.toNat u8) []) (Int.toNat i9) (0 : Int))]) * (16 : Nat) ≤ (140737488355328 : Nat) then k ((g0, to2, u8, IntKind.wrap .i64 (i9 + (1 : Int)), ()), (r0 ++ [(u8, List.getD (List.getD (Option.getD g0 []) (Int.toNat u8) []) (Int.toNat i9) (0 : Int))], ()))
 else none)
 else none)
 else none)
 else none)
 else none)
 else none)
 else kx (((g0, to2, u8, ()), (r0, ()))))
 else none)
 else none)
 else none)
noncomputable def rd6 : Rd (VO s6) (Xs x6) := fun v k kx => match v with
  | ((g0, to2, u8, i9, _), (r0, _)) => R6 g0 to2 u8 i9 r0 k kx
noncomputable def F6 (g0 : (Option (List (List Int)))) (to2 : Int) (u8 : Int) (i9 : Int) (r0 : List (Int × Int)) : Option X6 := finOf rd6 ((g0, to2, u8, i9, ()), (r0, ()))
theorem F6_inv {g0 : (Option (List (List Int)))} {to2 : Int} {u8 : Int} (I : Int → List (Int × Int) → Prop) (μ : Int → List (Int × Int) → Nat) (Q : X6 → Prop) (h : ∀ (i9 : Int) (r0 : List (Int × Int)), I i9 r0 → Led (fun (R : Type) (k : V6 → Option R) (kx : X6 → Option R) => R6 g0 to2 u8 i9 r0 k kx) (fun v => ∃ (i9' : Int) (r0' : List (Int × Int)), v = ((g0, to2, u8, i9', ()), (r0', ())) ∧ I i9' r0' ∧ μ i9' r0' < μ i9 r0) Q) : ∀ (i9 : Int) (r0 : List (Int × Int)), I i9 r0 → ∃ z, F6 g0 to2 u8 i9 r0 = some z ∧ Q z := fun i9 r0 hi => by
  refine finOf_inv (V := V6) (X := X6) (rd := rd6) (fun v => ∃ (i9' : Int) (r0' : List (Int × Int)), v = ((g0, to2, u8, i9', ()), (r0', ())) ∧ I i9' r0') (fun v => match v with
    | ((g0, to2, u8, i9, _), (r0, _)) => μ i9 r0) Q (fun v hv => ?_) ((g0, to2, u8, i9, ()), (r0, ())) ⟨i9, r0, rfl, hi⟩
  obtain ⟨i9, r0, rfl, hi⟩ := hv
  refine led_mono (h i9 r0 hi) ?_ (fun _ q => q)
  rintro v ⟨i9', r0', rfl, h1, h2⟩
  exact ⟨⟨i9', r0', rfl, h1⟩, h2⟩
noncomputable def L6 : Lp := ⟨6, ⟨[(0, none), (2, none), (7, some (.inl ((32 : Go.TypeId), (.pair I64 I64)))), (8, none), (9, none)]⟩, s6, x6, fun v => match v with
  | ((g0, to2, u8, i9, _), (r0, _)) => F6 g0 to2 u8 i9 r0⟩
theorem ends6 : Ends L6 rd6 := ends_fin (fun v => by
  obtain ⟨⟨g0, to2, u8, i9, _⟩, ⟨r0, _⟩⟩ := v
  rfl)
abbrev s3 : Shape := ⟨[.v (.ptr (.one (.list (.list I64)))), .un, .v I64, .un, .un, .un, .un, .row 0, .v I64, .un, .un, .un, .un, .un, .un, .un, .un, .un, .un, .un, .un, .un, .un, .un, .un, .un, .un, .un, .un, .un, .un, .un, .un, .un, .un, .un, .un, .un, .un, .un, .un, .un, .un, .un, .un, .un, .un, .un, .un, .un, .un], [.row (32 : Go.TypeId) (.pair I64 I64)]⟩
abbrev x3 : List Way := [⟨(.ex 0), ⟨[(7, some (.inl ((32 : Go.TypeId), (.pair I64 I64))))]⟩, ⟨[.un, .un, .un, .un, .un, .un, .un, .row 0, .un, .un, .un, .un, .un, .un, .un, .un, .un, .un, .un, .un, .un, .un, .un, .un, .un, .un, .un, .un, .un, .un, .un, .un, .un, .un, .un, .un, .un, .un, .un, .un, .un, .un, .un, .un, .un, .un, .un, .un, .un, .un, .un], [.row (32 : Go.TypeId) (.pair I64 I64)]⟩⟩]
abbrev V3 : Type := ((Option (List (List Int))) × Int × Int × Unit) × ((List (Int × Int)) × Unit)
abbrev X3 : Type := (Unit) × ((List (Int × Int)) × Unit)
noncomputable def R3 {R : Type} (g0 : (Option (List (List Int)))) (to2 : Int) (u8 : Int) (r0 : List (Int × Int)) (k : V3 → Option R) (kx : X3 → Option R) : Option R := (if Option.isSome g0 = Bool.true then (if Decidable.decide (u8 < if (↑(List.length (Option.getD g0 [])) : Int) < to2 then (↑(List.length (Option.getD g0 [])) : Int) else to2) = Bool.true then (match F6 (g0) (to2) (u8) ((0 : Int)) (r0) with
  | some (((g0_1, to2_1, u8_1, _), (r0_1, _))) => k ((g0_1, to2_1, IntKind.wrap .i64 (u8_1 + (1 : Int)), ()), (r0_1, ()))
  | none => none)
 else kx (((()), (r0, ()))))
 else none)
noncomputable def rd3 : Rd (VO s3) (Xs x3) := fun v k kx => match v with
  | ((g0, to2, u8, _), (r0, _)) => R3 g0 to2 u8 r0 k kx
noncomputable def F3 (g0 : (Option (List (List Int)))) (to2 : Int) (u8 : Int) (r0 : List (Int × Int)) : Option X3 := finOf rd3 ((g0, to2, u8, ()), (r0, ()))
theorem F3_inv {g0 : (Option (List (List Int)))} {to2 : Int} (I : Int → List (Int × Int) → Prop) (μ : Int → List (Int × Int) → Nat) (Q : X3 → Prop) (h : ∀ (u8 : Int) (r0 : List (Int × Int)), I u8 r0 → Led (fun (R : Type) (k : V3 → Option R) (kx : X3 → Option R) => R3 g0 to2 u8 r0 k kx) (fun v => ∃ (u8' : Int) (r0' : List (Int × Int)), v = ((g0, to2, u8', ()), (r0', ())) ∧ I u8' r0' ∧ μ u8' r0' < μ u8 r0) Q) : ∀ (u8 : Int) (r0 : List (Int × Int)), I u8 r0 → ∃ z, F3 g0 to2 u8 r0 = some z ∧ Q z := fun u8 r0 hi => by
  refine finOf_inv (V := V3) (X := X3) (rd := rd3) (fun v => ∃ (u8' : Int) (r0' : List (Int × Int)), v = ((g0, to2, u8', ()), (r0', ())) ∧ I u8' r0') (fun v => match v with
    | ((g0, to2, u8, _), (r0, _)) => μ u8 r0) Q (fun v hv => ?_) ((g0, to2, u8, ()), (r0, ())) ⟨u8, r0, rfl, hi⟩
  obtain ⟨u8, r0, rfl, hi⟩ := hv
  refine led_mono (h u8 r0 hi) ?_ (fun _ q => q)
  rintro v ⟨u8', r0', rfl, h1, h2⟩
  exact ⟨⟨u8', r0', rfl, h1⟩, h2⟩
noncomputable def L3 : Lp := ⟨3, ⟨[(0, none), (2, none), (7, some (.inl ((32 : Go.TypeId), (.pair I64 I64)))), (8, none)]⟩, s3, x3, fun v => match v with
  | ((g0, to2, u8, _), (r0, _)) => F3 g0 to2 u8 r0⟩
theorem ends3 : Ends L3 rd3 := ends_fin (fun v => by
  obtain ⟨⟨g0, to2, u8, _⟩, ⟨r0, _⟩⟩ := v
  rfl)
noncomputable def env : Env := mkEnv tab [] 0 [] [L6, L3]
theorem round6 : RoundIs env (sub [true, true, false, true, false, false, true, false, false, true, false, false] code) L6 rd6 := fun R v k kx => by kernel_rfl
theorem round3 : RoundIs env (sub [true, true, false, true, false, false] code) L3 rd3 := fun R v k kx => by kernel_rfl
abbrev D : Type := ((List (Int × Int)) × Unit)
noncomputable def run' (g0 : (Option (List (List Int)))) (from1 : Int) (to2 : Int) : Option D := (match F3 (g0) (to2) (if (0 : Int) > from1 then (0 : Int) else from1) ([]) with
  | some ((_, (r0_2, _))) => some (r0_2, ())
  | none => none)
noncomputable def run (d : Ds (List.map PM.ty ps)) : Option (Ds (muts ps ++ List.map PM.ty rs)) := match d with
  | (g0, from1, to2, _) => run' g0 from1 to2
theorem run_is : ∀ d, runF env 51 code [6] ps rs d = run d := fun d => by kernel_rfl
theorem loops : LoopsOk env code := loopsOk_of (l := [[true, true, false, true, false, false], [true, true, false, true, false, false, true, false, false, true, false, false]]) (by kernel_rfl) (fun p hp => by
  simp only [List.mem_cons, List.not_mem_nil, or_false] at hp
  rcases hp with rfl | rfl
  · exact loopOk_lp (L := L3) (x := sub [true, true, false, true, false, false] code) (by kernel_rfl) (by simp [L3]) round3 ends3
  · exact loopOk_lp (L := L6) (x := sub [true, true, false, true, false, false, true, false, false, true, false, false] code) (by kernel_rfl) (by simp [L6]) round6 ends6
  )
noncomputable def pre (g0 : (Option (List (List Int)))) (from1 : Int) (to2 : Int) : Bool := (run' g0 from1 to2).isSome
noncomputable def fn (g0 : (Option (List (List Int)))) (from1 : Int) (to2 : Int) : D := match run' g0 from1 to2 with
  | some x => x
  | none => default
noncomputable def sig : Sig := ⟨ps, rs, fun d => match d with
  | (g0, from1, to2, _) => pre g0 from1 to2, fun d => match d with
  | (g0, from1, to2, _) => fn g0 from1 to2, false⟩
theorem run_fn (g0 : (Option (List (List Int)))) (from1 : Int) (to2 : Int) (h : pre g0 from1 to2 = true) : run' g0 from1 to2 = some (fn g0 from1 to2) := by
  unfold pre at h
  unfold fn
  cases e : run' g0 from1 to2 with
  | some x => rfl
  | none => rw [e] at h; cases h
theorem is_fn (g0 : (Option (List (List Int)))) (from1 : Int) (to2 : Int) {x : D} (h : run' g0 from1 to2 = some x) : pre g0 from1 to2 = true ∧ fn g0 from1 to2 = x := by
  unfold pre fn
  rw [h]
  exact ⟨rfl, rfl⟩
theorem sound {ρ : Obs} (hE : EnvOk Go.Proofs.Try.prog ρ env) : Sound Go.Proofs.Try.prog ρ 61 sig := sound_of (fn := Go.Proofs.Try.f61) (c := code) (res := [6]) hE (by kernel_rfl) (by kernel_rfl) (by kernel_rfl) (by kernel_rfl) (by kernel_rfl) loops rfl (show 3 ≤ 51 by decide) (fun d hd => (run_is d).trans (by
  obtain ⟨g0, from1, to2, _⟩ := d
  exact run_fn g0 from1 to2 hd))
theorem enters : Enters Go.Proofs.Try.prog 61 := enters_of (fn := Go.Proofs.Try.f61) (by kernel_rfl) (by kernel_rfl) (by kernel_rfl)
theorem ok {ρ : Obs} (h : ∀ p ∈ ([] : List (FuncId × Sig)), Enters Go.Proofs.Try.prog p.1 ∧ Sound Go.Proofs.Try.prog ρ p.1 p.2) : Enters Go.Proofs.Try.prog 61 ∧ Sound Go.Proofs.Try.prog ρ 61 sig := ⟨enters, sound (envOk_of tabOk h)⟩
theorem okR : Enters Go.Proofs.Try.prog 61 ∧ Sound Go.Proofs.Try.prog rho 61 sig := ok (fun p hp => by
  cases hp)
end Arcs5
/-! (*pith/pithref5.Graph).Lists -/
namespace Lists5
abbrev ps : List PM := [.val (.ptr Rf), .val I64, .val I64]
abbrev rs : List PM := [.val (.list (.pair I64 (.list I64)))]
noncomputable abbrev code : Code := (Go.Proofs.Try.f64.body.getD .skip)
abbrev s3 : Shape := ⟨[.v (.ptr (.one (.list (.list I64)))), .un, .v I64, .un, .un, .un, .un, .row 0, .v I64, .un, .un, .un, .un, .un, .un, .un, .un, .un, .un, .un, .un, .un, .un, .un, .un, .un, .un, .un, .un, .un, .un, .un, .un, .un, .un, .un, .un, .un, .un, .un, .un, .un, .un, .un, .un], [.row (131 : Go.TypeId) (.pair I64 (.list I64))]⟩
abbrev x3 : List Way := [⟨(.ex 0), ⟨[(7, some (.inl ((131 : Go.TypeId), (.pair I64 (.list I64)))))]⟩, ⟨[.un, .un, .un, .un, .un, .un, .un, .row 0, .un, .un, .un, .un, .un, .un, .un, .un, .un, .un, .un, .un, .un, .un, .un, .un, .un, .un, .un, .un, .un, .un, .un, .un, .un, .un, .un, .un, .un, .un, .un, .un, .un, .un, .un, .un, .un], [.row (131 : Go.TypeId) (.pair I64 (.list I64))]⟩⟩]
abbrev V3 : Type := ((Option (List (List Int))) × Int × Int × Unit) × ((List (Int × (List Int))) × Unit)
abbrev X3 : Type := (Unit) × ((List (Int × (List Int))) × Unit)
noncomputable def R3 {R : Type} (g0 : (Option (List (List Int)))) (to2 : Int) (u8 : Int) (r0 : List (Int × (List Int))) (k : V3 → Option R) (kx : X3 → Option R) : Option R := (if Option.isSome g0 = Bool.true then (if Decidable.decide (u8 < if (↑(List.length (Option.getD g0 [])) : Int) < to2 then (↑(List.length (Option.getD g0 [])) : Int) else to2) = Bool.true then (if Option.isSome g0 = Bool.true then (if (0 : Int) ≤ u8 then (if u8 < (↑(List.length (Option.getD g0 [])) : Int) then (if Decidable.decide ((↑(List.length (List.getD (Option.getD g0 []) (Int.toNat u8) [])) : Int) > (0 : Int)) = Bool.true then (if Option.isSome g0 = Bool.true then (if (0 : Int) ≤ u8 then (if u8 < (↑(List.length (Option.getD g0 [])) : Int) then (if IntsV.pre (List.getD (Option.getD g0 []) (Int.toNat u8) []) = Bool.true then (if (List.length r0 + List.length [(u8, (IntsV.fn (List.getD (Option.getD g0 []) (Int.toNat u8) [])).1)]) * (32 : Nat) ≤ (140737488355328 : Nat) then k ((g0, to2, IntKind.wrap .i64 (u8 + (1 : Int)), ()), (r0 ++ [(u8, (IntsV.fn (List.getD (Option.getD g0 []) (Int.toNat u8) [])).1)], ()))
 else none)
 else none)
 else none)
 else none)
 else none)
 else k ((g0, to2, IntKind.wrap .i64 (u8 + (1 : Int)), ()), (r0, ())))
 else none)
 else none)
 else none)
 else kx (((()), (r0, ()))))
 else none)
noncomputable def rd3 : Rd (VO s3) (Xs x3) := fun v k kx => match v with
  | ((g0, to2, u8, _), (r0, _)) => R3 g0 to2 u8 r0 k kx
noncomputable def F3 (g0 : (Option (List (List Int)))) (to2 : Int) (u8 : Int) (r0 : List (Int × (List Int))) : Option X3 := finOf rd3 ((g0, to2, u8, ()), (r0, ()))
theorem F3_inv {g0 : (Option (List (List Int)))} {to2 : Int} (I : Int → List (Int × (List Int)) → Prop) (μ : Int → List (Int × (List Int)) → Nat) (Q : X3 → Prop) (h : ∀ (u8 : Int) (r0 : List (Int × (List Int))), I u8 r0 → Led (fun (R : Type) (k : V3 → Option R) (kx : X3 → Option R) => R3 g0 to2 u8 r0 k kx) (fun v => ∃ (u8' : Int) (r0' : List (Int × (List Int))), v = ((g0, to2, u8', ()), (r0', ())) ∧ I u8' r0' ∧ μ u8' r0' < μ u8 r0) Q) : ∀ (u8 : Int) (r0 : List (Int × (List Int))), I u8 r0 → ∃ z, F3 g0 to2 u8 r0 = some z ∧ Q z := fun u8 r0 hi => by
  refine finOf_inv (V := V3) (X := X3) (rd := rd3) (fun v => ∃ (u8' : Int) (r0' : List (Int × (List Int))), v = ((g0, to2, u8', ()), (r0', ())) ∧ I u8' r0') (fun v => match v with
    | ((g0, to2, u8, _), (r0, _)) => μ u8 r0) Q (fun v hv => ?_) ((g0, to2, u8, ()), (r0, ())) ⟨u8, r0, rfl, hi⟩
  obtain ⟨u8, r0, rfl, hi⟩ := hv
  refine led_mono (h u8 r0 hi) ?_ (fun _ q => q)
  rintro v ⟨u8', r0', rfl, h1, h2⟩
  exact ⟨⟨u8', r0', rfl, h1⟩, h2⟩
noncomputable def L3 : Lp := ⟨3, ⟨[(0, none), (2, none), (7, some (.inl ((131 : Go.TypeId), (.pair I64 (.list I64))))), (8, none)]⟩, s3, x3, fun v => match v with
  | ((g0, to2, u8, _), (r0, _)) => F3 g0 to2 u8 r0⟩
theorem ends3 : Ends L3 rd3 := ends_fin (fun v => by
  obtain ⟨⟨g0, to2, u8, _⟩, ⟨r0, _⟩⟩ := v
  rfl)
noncomputable def env : Env := mkEnv tab [(67, IntsV.sig)] 0 [] [L3]
theorem round3 : RoundIs env (sub [true, true, false, true, false, false] code) L3 rd3 := fun R v k kx => by kernel_rfl
abbrev D : Type := ((List (Int × (List Int))) × Unit)
noncomputable def run' (g0 : (Option (List (List Int)))) (from1 : Int) (to2 : Int) : Option D := (match F3 (g0) (to2) (if (0 : Int) > from1 then (0 : Int) else from1) ([]) with
  | some ((_, (r0_1, _))) => some (r0_1, ())
  | none => none)
noncomputable def run (d : Ds (List.map PM.ty ps)) : Option (Ds (muts ps ++ List.map PM.ty rs)) := match d with
  | (g0, from1, to2, _) => run' g0 from1 to2
theorem run_is : ∀ d, runF env 45 code [6] ps rs d = run d := fun d => by kernel_rfl
theorem loops : LoopsOk env code := loopsOk_of (l := [[true, true, false, true, false, false]]) (by kernel_rfl) (fun p hp => by
  simp only [List.mem_cons, List.not_mem_nil, or_false] at hp
  rcases hp with rfl
  · exact loopOk_lp (L := L3) (x := sub [true, true, false, true, false, false] code) (by kernel_rfl) (by simp [L3]) round3 ends3
  )
noncomputable def pre (g0 : (Option (List (List Int)))) (from1 : Int) (to2 : Int) : Bool := (run' g0 from1 to2).isSome
noncomputable def fn (g0 : (Option (List (List Int)))) (from1 : Int) (to2 : Int) : D := match run' g0 from1 to2 with
  | some x => x
  | none => default
noncomputable def sig : Sig := ⟨ps, rs, fun d => match d with
  | (g0, from1, to2, _) => pre g0 from1 to2, fun d => match d with
  | (g0, from1, to2, _) => fn g0 from1 to2, false⟩
theorem run_fn (g0 : (Option (List (List Int)))) (from1 : Int) (to2 : Int) (h : pre g0 from1 to2 = true) : run' g0 from1 to2 = some (fn g0 from1 to2) := by
  unfold pre at h
  unfold fn
  cases e : run' g0 from1 to2 with
  | some x => rfl
  | none => rw [e] at h; cases h
theorem is_fn (g0 : (Option (List (List Int)))) (from1 : Int) (to2 : Int) {x : D} (h : run' g0 from1 to2 = some x) : pre g0 from1 to2 = true ∧ fn g0 from1 to2 = x := by
  unfold pre fn
  rw [h]
  exact ⟨rfl, rfl⟩
theorem sound {ρ : Obs} (hE : EnvOk Go.Proofs.Try.prog ρ env) : Sound Go.Proofs.Try.prog ρ 64 sig := sound_of (fn := Go.Proofs.Try.f64) (c := code) (res := [6]) hE (by kernel_rfl) (by kernel_rfl) (by kernel_rfl) (by kernel_rfl) (by kernel_rfl) loops rfl (show 3 ≤ 45 by decide) (fun d hd => (run_is d).trans (by
  obtain ⟨g0, from1, to2, _⟩ := d
  exact run_fn g0 from1 to2 hd))
theorem enters : Enters Go.Proofs.Try.prog 64 := enters_of (fn := Go.Proofs.Try.f64) (by kernel_rfl) (by kernel_rfl) (by kernel_rfl)
theorem ok {ρ : Obs} (h : ∀ p ∈ ([(67, IntsV.sig)] : List (FuncId × Sig)), Enters Go.Proofs.Try.prog p.1 ∧ Sound Go.Proofs.Try.prog ρ p.1 p.2) : Enters Go.Proofs.Try.prog 64 ∧ Sound Go.Proofs.Try.prog ρ 64 sig := ⟨enters, sound (envOk_of tabOk h)⟩
theorem okR : Enters Go.Proofs.Try.prog 64 ∧ Sound Go.Proofs.Try.prog rho 64 sig := ok (fun p hp => by
  simp only [List.mem_cons, List.not_mem_nil, or_false] at hp
  rcases hp with rfl
  · exact IntsV.okR)
end Lists5
/-! pith/pithref5.kept -/
namespace kept5
abbrev ps : List PM := [.val (.list .bool), .val I64]
abbrev rs : List PM := [.val .bool]
noncomputable abbrev code : Code := (Go.Proofs.Try.f119.body.getD .skip)
noncomputable def env : Env := mkEnv tab [] 0 [] []
abbrev D : Type := (Bool × Unit)
noncomputable def run' (keep0 : (List Bool)) (v1 : Int) : Option D := (if Decidable.decide (v1 < (↑(List.length keep0) : Int)) = Bool.true then (if (0 : Int) ≤ v1 then (if v1 < (↑(List.length keep0) : Int) then some (List.getD keep0 (Int.toNat v1) Bool.false, ())
 else none)
 else none)
 else some (Bool.false, ()))
noncomputable def run (d : Ds (List.map PM.ty ps)) : Option (Ds (muts ps ++ List.map PM.ty rs)) := match d with
  | (keep0, v1, _) => run' keep0 v1
theorem run_is : ∀ d, runF env 15 code [4] ps rs d = run d := fun d => by kernel_rfl
theorem loops : LoopsOk env code := loopsOk_of (l := []) (by kernel_rfl) (fun p hp => by
  cases hp)
noncomputable def pre (keep0 : (List Bool)) (v1 : Int) : Bool := (run' keep0 v1).isSome
noncomputable def fn (keep0 : (List Bool)) (v1 : Int) : D := match run' keep0 v1 with
  | some x => x
  | none => default
noncomputable def sig : Sig := ⟨ps, rs, fun d => match d with
  | (keep0, v1, _) => pre keep0 v1, fun d => match d with
  | (keep0, v1, _) => fn keep0 v1, false⟩
theorem run_fn (keep0 : (List Bool)) (v1 : Int) (h : pre keep0 v1 = true) : run' keep0 v1 = some (fn keep0 v1) := by
  unfold pre at h
  unfold fn
  cases e : run' keep0 v1 with
  | some x => rfl
  | none => rw [e] at h; cases h
theorem is_fn (keep0 : (List Bool)) (v1 : Int) {x : D} (h : run' keep0 v1 = some x) : pre keep0 v1 = true ∧ fn keep0 v1 = x := by
  unfold pre fn
  rw [h]
  exact ⟨rfl, rfl⟩
theorem sound {ρ : Obs} (hE : EnvOk Go.Proofs.Try.prog ρ env) : Sound Go.Proofs.Try.prog ρ 119 sig := sound_of (fn := Go.Proofs.Try.f119) (c := code) (res := [4]) hE (by kernel_rfl) (by kernel_rfl) (by kernel_rfl) (by kernel_rfl) (by kernel_rfl) loops rfl (show 2 ≤ 15 by decide) (fun d hd => (run_is d).trans (by
  obtain ⟨keep0, v1, _⟩ := d
  exact run_fn keep0 v1 hd))
theorem enters : Enters Go.Proofs.Try.prog 119 := enters_of (fn := Go.Proofs.Try.f119) (by kernel_rfl) (by kernel_rfl) (by kernel_rfl)
theorem ok {ρ : Obs} (h : ∀ p ∈ ([] : List (FuncId × Sig)), Enters Go.Proofs.Try.prog p.1 ∧ Sound Go.Proofs.Try.prog ρ p.1 p.2) : Enters Go.Proofs.Try.prog 119 ∧ Sound Go.Proofs.Try.prog ρ 119 sig := ⟨enters, sound (envOk_of tabOk h)⟩
theorem okR : Enters Go.Proofs.Try.prog 119 ∧ Sound Go.Proofs.Try.prog rho 119 sig := ok (fun p hp => by
  cases hp)
end kept5
/-! pith/pithref.IntLists -/
namespace IntL5
abbrev ps : List PM := [.val (.list (.list I64))]
abbrev rs : List PM := [.own 25 (.list I64)]
noncomputable abbrev code : Code := (Go.Proofs.Try.f121.body.getD .skip)
abbrev s3 : Shape := ⟨[.v (.list (.list I64)), .un, .un, .row 0, .v I64, .un, .un, .un, .un, .un, .un, .un, .un, .un, .un, .un, .un, .un, .un, .un, .un, .un, .un, .un, .un], [.row (25 : Go.TypeId) (.list I64)]⟩
abbrev x3 : List Way := [⟨(.ex 0), ⟨[(3, none)]⟩, ⟨[.un, .un, .un, .row 0, .un, .un, .un, .un, .un, .un, .un, .un, .un, .un, .un, .un, .un, .un, .un, .un, .un, .un, .un, .un, .un], [.row (25 : Go.TypeId) (.list I64)]⟩⟩]
abbrev V3 : Type := ((List (List Int)) × Int × Unit) × ((List (List Int)) × Unit)
abbrev X3 : Type := (Unit) × ((List (List Int)) × Unit)
noncomputable def R3 {R : Type} (l0 : (List (List Int))) (i4 : Int) (r0 : List (List Int)) (k : V3 → Option R) (kx : X3 → Option R) : Option R := (if Decidable.decide (i4 < (↑(List.length l0) : Int)) = Bool.true then (if (0 : Int) ≤ i4 then (if i4 < (↑(List.length l0) : Int) then (if IntsO.pre (List.getD l0 (Int.toNat i4) []) = Bool.true then (if (List.length r0 + List.length [(IntsO.fn (List.getD l0 (Int.toNat i4) [])).1]) * (24 : Nat) ≤ (140737488355328 : Nat) then k ((l0, IntKind.wrap .i64 (i4 + (1 : Int)), ()), (r0 ++ [(IntsO.fn (List.getD l0 (Int.toNat i4) [])).1], ()))
 else none)
 else none)
 else none)
 else none)
 else kx (((()), (r0, ()))))
noncomputable def rd3 : Rd (VO s3) (Xs x3) := fun v k kx => match v with
  | ((l0, i4, _), (r0, _)) => R3 l0 i4 r0 k kx
noncomputable def F3 (l0 : (List (List Int))) (i4 : Int) (r0 : List (List Int)) : Option X3 := finOf rd3 ((l0, i4, ()), (r0, ()))
theorem F3_inv {l0 : (List (List Int))} (I : Int → List (List Int) → Prop) (μ : Int → List (List Int) → Nat) (Q : X3 → Prop) (h : ∀ (i4 : Int) (r0 : List (List Int)), I i4 r0 → Led (fun (R : Type) (k : V3 → Option R) (kx : X3 → Option R) => R3 l0 i4 r0 k kx) (fun v => ∃ (i4' : Int) (r0' : List (List Int)), v = ((l0, i4', ()), (r0', ())) ∧ I i4' r0' ∧ μ i4' r0' < μ i4 r0) Q) : ∀ (i4 : Int) (r0 : List (List Int)), I i4 r0 → ∃ z, F3 l0 i4 r0 = some z ∧ Q z := fun i4 r0 hi => by
  refine finOf_inv (V := V3) (X := X3) (rd := rd3) (fun v => ∃ (i4' : Int) (r0' : List (List Int)), v = ((l0, i4', ()), (r0', ())) ∧ I i4' r0') (fun v => match v with
    | ((l0, i4, _), (r0, _)) => μ i4 r0) Q (fun v hv => ?_) ((l0, i4, ()), (r0, ())) ⟨i4, r0, rfl, hi⟩
  obtain ⟨i4, r0, rfl, hi⟩ := hv
  refine led_mono (h i4 r0 hi) ?_ (fun _ q => q)
  rintro v ⟨i4', r0', rfl, h1, h2⟩
  exact ⟨⟨i4', r0', rfl, h1⟩, h2⟩
noncomputable def L3 : Lp := ⟨3, ⟨[(0, none), (3, none), (4, none)]⟩, s3, x3, fun v => match v with
  | ((l0, i4, _), (r0, _)) => F3 l0 i4 r0⟩
theorem ends3 : Ends L3 rd3 := ends_fin (fun v => by
  obtain ⟨⟨l0, i4, _⟩, ⟨r0, _⟩⟩ := v
  rfl)
noncomputable def env : Env := mkEnv tab [(67, IntsO.sig)] 0 [] [L3]
theorem round3 : RoundIs env (sub [true, true, false, true, false, false] code) L3 rd3 := fun R v k kx => by kernel_rfl
abbrev D : Type := ((List (List Int)) × Unit)
noncomputable def run' (l0 : (List (List Int))) : Option D := (if Int.toNat (↑(List.length l0) : Int) * (24 : Nat) ≤ (140737488355328 : Nat) then (match F3 (l0) ((0 : Int)) ([]) with
  | some ((_, (r0_1, _))) => some (r0_1, ())
  | none => none)
 else none)
noncomputable def run (d : Ds (List.map PM.ty ps)) : Option (Ds (muts ps ++ List.map PM.ty rs)) := match d with
  | (l0, _) => run' l0
theorem run_is : ∀ d, runF env 25 code [2] ps rs d = run d := fun d => by kernel_rfl
theorem loops : LoopsOk env code := loopsOk_of (l := [[true, true, false, true, false, false]]) (by kernel_rfl) (fun p hp => by
  simp only [List.mem_cons, List.not_mem_nil, or_false] at hp
  rcases hp with rfl
  · exact loopOk_lp (L := L3) (x := sub [true, true, false, true, false, false] code) (by kernel_rfl) (by simp [L3]) round3 ends3
  )
noncomputable def pre (l0 : (List (List Int))) : Bool := (run' l0).isSome
noncomputable def fn (l0 : (List (List Int))) : D := match run' l0 with
  | some x => x
  | none => default
noncomputable def sig : Sig := ⟨ps, rs, fun d => match d with
  | (l0, _) => pre l0, fun d => match d with
  | (l0, _) => fn l0, false⟩
theorem run_fn (l0 : (List (List Int))) (h : pre l0 = true) : run' l0 = some (fn l0) := by
  unfold pre at h
  unfold fn
  cases e : run' l0 with
  | some x => rfl
  | none => rw [e] at h; cases h
theorem is_fn (l0 : (List (List Int))) {x : D} (h : run' l0 = some x) : pre l0 = true ∧ fn l0 = x := by
  unfold pre fn
  rw [h]
  exact ⟨rfl, rfl⟩
theorem sound {ρ : Obs} (hE : EnvOk Go.Proofs.Try.prog ρ env) : Sound Go.Proofs.Try.prog ρ 121 sig := sound_of (fn := Go.Proofs.Try.f121) (c := code) (res := [2]) hE (by kernel_rfl) (by kernel_rfl) (by kernel_rfl) (by kernel_rfl) (by kernel_rfl) loops rfl (show 1 ≤ 25 by decide) (fun d hd => (run_is d).trans (by
  obtain ⟨l0, _⟩ := d
  exact run_fn l0 hd))
theorem enters : Enters Go.Proofs.Try.prog 121 := enters_of (fn := Go.Proofs.Try.f121) (by kernel_rfl) (by kernel_rfl) (by kernel_rfl)
theorem ok {ρ : Obs} (h : ∀ p ∈ ([(67, IntsO.sig)] : List (FuncId × Sig)), Enters Go.Proofs.Try.prog p.1 ∧ Sound Go.Proofs.Try.prog ρ p.1 p.2) : Enters Go.Proofs.Try.prog 121 ∧ Sound Go.Proofs.Try.prog ρ 121 sig := ⟨enters, sound (envOk_of tabOk h)⟩
theorem okR : Enters Go.Proofs.Try.prog 121 ∧ Sound Go.Proofs.Try.prog rho 121 sig := ok (fun p hp => by
  simp only [List.mem_cons, List.not_mem_nil, or_false] at hp
  rcases hp with rfl
  · exact IntsO.okR)
end IntL5
/-! (*pith/pithref5.Graph).Changed -/
namespace Chg5
abbrev ps : List PM := [.val (.ptr Rf), .val (.list (.pair I64 (.pair I64 .bool)))]
abbrev rs : List PM := [.val (.ptr Rf), .val I64]
noncomputable abbrev code : Code := (Go.Proofs.Try.f57.body.getD .skip)
abbrev s2 : Shape := ⟨[.v (.ptr (.one (.list (.list I64)))), .v (.list (.pair I64 (.pair I64 .bool))), .un, .un, .un, .un, .v I64, .un, .un, .un, .un, .un, .un, .un, .un, .un, .un, .un, .un, .un, .un, .un, .un, .un, .un, .un, .un, .un, .un, .un, .un, .un, .un, .un, .un, .un, .un, .un, .un, .un, .un, .un, .un, .un, .un, .un, .un, .un, .un, .un, .un, .un, .un, .un, .un, .un, .un, .un, .un, .un, .un, .un, .un, .un, .un, .un, .un, .un, .un, .un, .un, .un, .un, .un, .un, .un, .un, .un, .un, .un, .un, .un, .un, .un, .un, .un, .un, .un], []⟩
abbrev x2 : List Way := [⟨.rt, ⟨[(4, none), (5, none)]⟩, ⟨[.un, .un, .un, .un, .nlp, .v I64, .un, .un, .un, .un, .un, .un, .un, .un, .un, .un, .un, .un, .un, .un, .un, .un, .un, .un, .un, .un, .un, .un, .un, .un, .un, .un, .un, .un, .un, .un, .un, .un, .un, .un, .un, .un, .un, .un, .un, .un, .un, .un, .un, .un, .un, .un, .un, .un, .un, .un, .un, .un, .un, .un, .un, .un, .un, .un, .un, .un, .un, .un, .un, .un, .un, .un, .un, .un, .un, .un, .un, .un, .un, .un, .un, .un, .un, .un, .un, .un, .un, .un], []⟩⟩, ⟨(.ex 0), ⟨[(0, none), (1, none)]⟩, ⟨[.v (.ptr (.one (.list (.list I64)))), .v (.list (.pair I64 (.pair I64 .bool))), .un, .un, .un, .un, .un, .un, .un, .un, .un, .un, .un, .un, .un, .un, .un, .un, .un, .un, .un, .un, .un, .un, .un, .un, .un, .un, .un, .un, .un, .un, .un, .un, .un, .un, .un, .un, .un, .un, .un, .un, .un, .un, .un, .un, .un, .un, .un, .un, .un, .un, .un, .un, .un, .un, .un, .un, .un, .un, .un, .un, .un, .un, .un, .un, .un, .un, .un, .un, .un, .un, .un, .un, .un, .un, .un, .un, .un, .un, .un, .un, .un, .un, .un, .un, .un, .un], []⟩⟩]
abbrev V2 : Type := ((Option (List (List Int))) × (List (Int × (Int × Bool))) × Int × Unit) × (Unit)
abbrev X2 : Type := ((Int × Unit) × (Unit)) ⊕ (((Option (List (List Int))) × (List (Int × (Int × Bool))) × Unit) × (Unit))
noncomputable def R2 {R : Type} (g0 : (Option (List (List Int)))) (l1 : (List (Int × (Int × Bool)))) (i6 : Int) (k : V2 → Option R) (kx : X2 → Option R) : Option R := (if Decidable.decide (i6 < (↑(List.length l1) : Int)) = Bool.true then (if (0 : Int) ≤ i6 then (if i6 < (↑(List.length l1) : Int) then (if Option.isSome g0 = Bool.true then (if in5.pre (List.getD l1 (Int.toNat i6) ((0 : Int), (0 : Int), Bool.false)).1 (↑(List.length (Option.getD g0 [])) : Int) = Bool.true then (if (0 : Int) ≤ i6 then (if i6 < (↑(List.length l1) : Int) then (if Option.isSome g0 = Bool.true then (if in5.pre (List.getD l1 (Int.toNat i6) ((0 : Int), (0 : Int), Bool.false)).2.1 (↑(List.length (Option.getD g0 [])) : Int) = Bool.true then (if (!(in5.fn (List.getD l1 (Int.toNat i6) ((0 : Int), (0 : Int), Bool.false)).1 (↑(List.length (Option.getD g0 [])) : Int)).1) = Bool.false then (if (!(in5.fn (List.getD l1 (Int.toNat i6) ((0 : Int), (0 : Int), Bool.false)).2.1 (↑(List.length (Option.getD g0 [])) : Int)).1) = Bool.true then kx (Sum.inl <| (((42 : Int), ()), (())))
 else k ((g0, l1, IntKind.wrap .i64 (i6 + (1 : Int)), ()), (())))
 else kx (Sum.inl <| (((42 : Int), ()), (()))))
 else none)
 else none)
 else none)
 else none)
 else none)
 else none)
 else none)
 else none)
 else kx (Sum.inr <| ((g0, l1, ()), (()))))
noncomputable def rd2 : Rd (VO s2) (Xs x2) := fun v k kx => match v with
  | ((g0, l1, i6, _), _) => R2 g0 l1 i6 k kx
noncomputable def F2 (g0 : (Option (List (List Int)))) (l1 : (List (Int × (Int × Bool)))) (i6 : Int) : Option X2 := finOf rd2 ((g0, l1, i6, ()), (()))
theorem F2_inv {g0 : (Option (List (List Int)))} {l1 : (List (Int × (Int × Bool)))} (I : Int → Prop) (μ : Int → Nat) (Q : X2 → Prop) (h : ∀ (i6 : Int), I i6 → Led (fun (R : Type) (k : V2 → Option R) (kx : X2 → Option R) => R2 g0 l1 i6 k kx) (fun v => ∃ (i6' : Int), v = ((g0, l1, i6', ()), ()) ∧ I i6' ∧ μ i6' < μ i6) Q) : ∀ (i6 : Int), I i6 → ∃ z, F2 g0 l1 i6 = some z ∧ Q z := fun i6 hi => by
  refine finOf_inv (V := V2) (X := X2) (rd := rd2) (fun v => ∃ (i6' : Int), v = ((g0, l1, i6', ()), ()) ∧ I i6') (fun v => match v with
    | ((g0, l1, i6, _), _) => μ i6) Q (fun v hv => ?_) ((g0, l1, i6, ()), ()) ⟨i6, rfl, hi⟩
  obtain ⟨i6, rfl, hi⟩ := hv
  refine led_mono (h i6 hi) ?_ (fun _ q => q)
  rintro v ⟨i6', rfl, h1, h2⟩
  exact ⟨⟨i6', rfl, h1⟩, h2⟩
noncomputable def L2 : Lp := ⟨2, ⟨[(0, none), (1, none), (6, none)]⟩, s2, x2, fun v => match v with
  | ((g0, l1, i6, _), _) => F2 g0 l1 i6⟩
theorem ends2 : Ends L2 rd2 := ends_fin (fun v => by
  obtain ⟨⟨g0, l1, i6, _⟩, ⟨_⟩⟩ := v
  rfl)
abbrev s10 : Shape := ⟨[.un, .v (.list (.pair I64 (.pair I64 .bool))), .un, .un, .un, .un, .un, .un, .un, .box 0 0, .v I64, .un, .un, .un, .un, .un, .un, .un, .un, .un, .un, .un, .un, .un, .un, .un, .un, .un, .un, .un, .un, .un, .un, .un, .un, .un, .un, .un, .un, .un, .un, .un, .un, .un, .un, .un, .un, .un, .un, .un, .un, .un, .un, .un, .un, .un, .un, .un, .un, .un, .un, .un, .un, .un, .un, .un, .un, .un, .un, .un, .un, .un, .un, .un, .un, .un, .un, .un, .un, .un, .un, .un, .un, .un, .un, .un, .un, .un], [.cells (126 : Go.TypeId) [.row 1], .row (25 : Go.TypeId) (.list I64)]⟩
abbrev x10 : List Way := [⟨(.ex 2), ⟨[(9, none)]⟩, ⟨[.un, .un, .un, .un, .un, .un, .un, .un, .un, .box 0 0, .un, .un, .un, .un, .un, .un, .un, .un, .un, .un, .un, .un, .un, .un, .un, .un, .un, .un, .un, .un, .un, .un, .un, .un, .un, .un, .un, .un, .un, .un, .un, .un, .un, .un, .un, .un, .un, .un, .un, .un, .un, .un, .un, .un, .un, .un, .un, .un, .un, .un, .un, .un, .un, .un, .un, .un, .un, .un, .un, .un, .un, .un, .un, .un, .un, .un, .un, .un, .un, .un, .un, .un, .un, .un, .un, .un, .un, .un], [.cells (126 : Go.TypeId) [.row 1], .row (25 : Go.TypeId) (.list I64)]⟩⟩]
abbrev V10 : Type := ((List (Int × (Int × Bool))) × Int × Unit) × ((Unit) × (List (List Int)) × Unit)
abbrev X10 : Type := (Unit) × ((Unit) × (List (List Int)) × Unit)
noncomputable def R10 {R : Type} (l1 : (List (Int × (Int × Bool)))) (i10 : Int) (r1 : List (List Int)) (k : V10 → Option R) (kx : X10 → Option R) : Option R := (if Decidable.decide (i10 < (↑(List.length l1) : Int)) = Bool.true then (if (0 : Int) ≤ i10 then (if i10 < (↑(List.length l1) : Int) then (if (List.getD l1 (Int.toNat i10) ((0 : Int), (0 : Int), Bool.false)).2.2 = Bool.true then (if (0 : Int) ≤ i10 then (if i10 < (↑(List.length l1) : Int) then (if (0 : Int) ≤ i10 then (if i10 < (↑(List.length l1) : Int) then (if cuts5.pre r1 (List.getD l1 (Int.toNat i10) ((0 : Int), (0 : Int), Bool.false)).1 (List.getD l1 (Int.toNat i10) ((0 : Int), (0 : Int), Bool.false)).2.1 = Bool.true then k ((l1, IntKind.wrap .i64 (i10 + (1 : Int)), ()), ((()), (cuts5.fn r1 (List.getD l1 (Int.toNat i10) ((0 : Int), (0 : Int), Bool.false)).1 (List.getD l1 (Int.toNat i10) ((0 : Int), (0 : Int), Bool.false)).2.1).1.1, ()))
 else none)
 else none)
 else none)
 else none)
 else none)
 else (if (0 : Int) ≤ i10 then (if i10 < (↑(List.length l1) : Int) then (if (0 : Int) ≤ i10 then (if i10 < (↑(List.length l1) : Int) then (if joins5.pre r1 (List.getD l1 (Int.toNat i10) ((0 : Int), (0 : Int), Bool.false)).1 (List.getD l1 (Int.toNat i10) ((0 : Int), (0 : Int), Bool.false)).2.1 = Bool.true then k ((l1, IntKind.wrap .i64 (i10 + (1 : Int)), ()), ((()), (joins5.fn r1 (List.getD l1 (Int.toNat i10) ((0 : Int), (0 : Int), Bool.false)).1 (List.getD l1 (Int.toNat i10) ((0 : Int), (0 : Int), Bool.false)).2.1).1.1, ()))
 else none)
 else none)
 else none)
 else none)
 else none))
 else none)
 else none)
 else kx (((()), ((()), r1, ()))))
noncomputable def rd10 : Rd (VO s10) (Xs x10) := fun v k kx => match v with
  | ((l1, i10, _), (_, r1, _)) => R10 l1 i10 r1 k kx
noncomputable def F10 (l1 : (List (Int × (Int × Bool)))) (i10 : Int) (r1 : List (List Int)) : Option X10 := finOf rd10 ((l1, i10, ()), ((()), r1, ()))
theorem F10_inv {l1 : (List (Int × (Int × Bool)))} (I : Int → List (List Int) → Prop) (μ : Int → List (List Int) → Nat) (Q : X10 → Prop) (h : ∀ (i10 : Int) (r1 : List (List Int)), I i10 r1 → Led (fun (R : Type) (k : V10 → Option R) (kx : X10 → Option R) => R10 l1 i10 r1 k kx) (fun v => ∃ (i10' : Int) (r1' : List (List Int)), v = ((l1, i10', ()), ((), r1', ())) ∧ I i10' r1' ∧ μ i10' r1' < μ i10 r1) Q) : ∀ (i10 : Int) (r1 : List (List Int)), I i10 r1 → ∃ z, F10 l1 i10 r1 = some z ∧ Q z := fun i10 r1 hi => by
  refine finOf_inv (V := V10) (X := X10) (rd := rd10) (fun v => ∃ (i10' : Int) (r1' : List (List Int)), v = ((l1, i10', ()), ((), r1', ())) ∧ I i10' r1') (fun v => match v with
    | ((l1, i10, _), (_, r1, _)) => μ i10 r1) Q (fun v hv => ?_) ((l1, i10, ()), ((), r1, ())) ⟨i10, r1, rfl, hi⟩
  obtain ⟨i10, r1, rfl, hi⟩ := hv
  refine led_mono (h i10 r1 hi) ?_ (fun _ q => q)
  rintro v ⟨i10', r1', rfl, h1, h2⟩
  exact ⟨⟨i10', r1', rfl, h1⟩, h2⟩
noncomputable def L10 : Lp := ⟨10, ⟨[(1, none), (9, none), (10, none)]⟩, s10, x10, fun v => match v with
  | ((l1, i10, _), (_, r1, _)) => F10 l1 i10 r1⟩
theorem ends10 : Ends L10 rd10 := ends_fin (fun v => by
  obtain ⟨⟨l1, i10, _⟩, ⟨⟨_⟩, r1, _⟩⟩ := v
  rfl)
noncomputable def env : Env := mkEnv tab [(120, in5.sig), (121, IntL5.sig), (123, joins5.sig), (122, cuts5.sig)] 0 [(4, [0, 1, 2, 3, 4, 5, 6, 7, 8, 9, 10, 11]), (5, [0, 1, 2, 3, 4, 5, 6, 7, 8, 9, 10, 11]), (13, [0, 1, 2, 3, 4, 5, 6, 7, 8, 9, 10, 11]), (14, [0, 1, 2, 3, 4, 5, 6, 7, 8, 9, 10, 11])] [L2, L10]
theorem round2 : RoundIs env (sub [true, false, true, false, false] code) L2 rd2 := fun R v k kx => by kernel_rfl
theorem round10 : RoundIs env (sub [true, true, true, false, true, false, false] code) L10 rd10 := fun R v k kx => by kernel_rfl
abbrev D : Type := ((Option (List (List Int))) × Int × Unit)
noncomputable def run' (g0 : (Option (List (List Int)))) (l1 : (List (Int × (Int × Bool)))) : Option D := (match F2 (g0) (l1) ((0 : Int)) with
  | some (Sum.inl <| ((t5_1, _), _)) => some (Option.none, t5_1, ())
  | some (Sum.inr <| ((g0_2, l1_2, _), _)) => (if Option.isSome g0_2 = Bool.true then (if IntL5.pre (Option.getD g0_2 []) = Bool.true then (match F10 (l1_2) ((0 : Int)) ((IntL5.fn (Option.getD g0_2 [])).1) with
  | some ((_, (_, r1_3, _))) => some (Option.some r1_3, (0 : Int), ())
  | none => none)
 else none)
 else none)
  | none => none)
noncomputable def run (d : Ds (List.map PM.ty ps)) : Option (Ds (muts ps ++ List.map PM.ty rs)) := match d with
  | (g0, l1, _) => run' g0 l1
theorem run_is : ∀ d, runF env 88 code [4, 5] ps rs d = run d := fun d => by kernel_rfl
theorem loops : LoopsOk env code := loopsOk_of (l := [[true, false, true, false, false], [true, true, true, false, true, false, false]]) (by kernel_rfl) (fun p hp => by
  simp only [List.mem_cons, List.not_mem_nil, or_false] at hp
  rcases hp with rfl | rfl
  · exact loopOk_lp (L := L2) (x := sub [true, false, true, false, false] code) (by kernel_rfl) (by simp [L2]) round2 ends2
  · exact loopOk_lp (L := L10) (x := sub [true, true, true, false, true, false, false] code) (by kernel_rfl) (by simp [L10]) round10 ends10
  )
noncomputable def pre (g0 : (Option (List (List Int)))) (l1 : (List (Int × (Int × Bool)))) : Bool := (run' g0 l1).isSome
noncomputable def fn (g0 : (Option (List (List Int)))) (l1 : (List (Int × (Int × Bool)))) : D := match run' g0 l1 with
  | some x => x
  | none => default
noncomputable def sig : Sig := ⟨ps, rs, fun d => match d with
  | (g0, l1, _) => pre g0 l1, fun d => match d with
  | (g0, l1, _) => fn g0 l1, false⟩
theorem run_fn (g0 : (Option (List (List Int)))) (l1 : (List (Int × (Int × Bool)))) (h : pre g0 l1 = true) : run' g0 l1 = some (fn g0 l1) := by
  unfold pre at h
  unfold fn
  cases e : run' g0 l1 with
  | some x => rfl
  | none => rw [e] at h; cases h
theorem is_fn (g0 : (Option (List (List Int)))) (l1 : (List (Int × (Int × Bool)))) {x : D} (h : run' g0 l1 = some x) : pre g0 l1 = true ∧ fn g0 l1 = x := by
  unfold pre fn
  rw [h]
  exact ⟨rfl, rfl⟩
theorem sound {ρ : Obs} (hE : EnvOk Go.Proofs.Try.prog ρ env) : Sound Go.Proofs.Try.prog ρ 57 sig := sound_of (fn := Go.Proofs.Try.f57) (c := code) (res := [4, 5]) hE (by kernel_rfl) (by kernel_rfl) (by kernel_rfl) (by kernel_rfl) (by kernel_rfl) loops rfl (show 2 ≤ 88 by decide) (fun d hd => (run_is d).trans (by
  obtain ⟨g0, l1, _⟩ := d
  exact run_fn g0 l1 hd))
theorem enters : Enters Go.Proofs.Try.prog 57 := enters_of (fn := Go.Proofs.Try.f57) (by kernel_rfl) (by kernel_rfl) (by kernel_rfl)
theorem ok {ρ : Obs} (h : ∀ p ∈ ([(120, in5.sig), (121, IntL5.sig), (123, joins5.sig), (122, cuts5.sig)] : List (FuncId × Sig)), Enters Go.Proofs.Try.prog p.1 ∧ Sound Go.Proofs.Try.prog ρ p.1 p.2) : Enters Go.Proofs.Try.prog 57 ∧ Sound Go.Proofs.Try.prog ρ 57 sig := ⟨enters, sound (envOk_of tabOk h)⟩
theorem okR : Enters Go.Proofs.Try.prog 57 ∧ Sound Go.Proofs.Try.prog rho 57 sig := ok (fun p hp => by
  simp only [List.mem_cons, List.not_mem_nil, or_false] at hp
  rcases hp with rfl | rfl | rfl | rfl
  · exact in5.okR
  · exact IntL5.okR
  · exact joins5.okR
  · exact cuts5.okR)
end Chg5
/-! (*pith/pithref5.Graph).Parts -/
namespace Parts5
abbrev ps : List PM := [.val (.ptr Rf), .val (.list .bool)]
abbrev rs : List PM := [.val (.list I64)]
noncomputable abbrev code : Code := (Go.Proofs.Try.f54.body.getD .skip)
abbrev s3 : Shape := ⟨[.v (.ptr (.one (.list (.list I64)))), .v (.list .bool), .un, .un, .un, .row 0, .v I64, .un, .un, .un, .un, .un, .un, .un, .un, .un, .un, .un, .un, .un, .un, .un, .un, .un, .un, .un, .un, .un, .un, .un, .un, .un, .un, .un, .un, .un, .un, .un, .un, .un, .un, .un, .un, .un, .un, .un, .un, .un, .un, .un, .un, .un, .un, .un, .un, .un, .un, .un, .un, .un, .un, .un, .un, .un, .un, .un, .un, .un, .un, .un, .un, .un, .un, .un, .un, .un, .un, .un, .un, .un, .un, .un, .un, .un, .un, .un, .un, .un, .un, .un, .un, .un, .un, .un, .un, .un, .un, .un, .un, .un, .un, .un, .un, .un, .un, .un, .un], [.row (3 : Go.TypeId) I64]⟩
abbrev x3 : List Way := [⟨(.ex 0), ⟨[(0, none), (1, none), (5, none)]⟩, ⟨[.v (.ptr (.one (.list (.list I64)))), .v (.list .bool), .un, .un, .un, .row 0, .un, .un, .un, .un, .un, .un, .un, .un, .un, .un, .un, .un, .un, .un, .un, .un, .un, .un, .un, .un, .un, .un, .un, .un, .un, .un, .un, .un, .un, .un, .un, .un, .un, .un, .un, .un, .un, .un, .un, .un, .un, .un, .un, .un, .un, .un, .un, .un, .un, .un, .un, .un, .un, .un, .un, .un, .un, .un, .un, .un, .un, .un, .un, .un, .un, .un, .un, .un, .un, .un, .un, .un, .un, .un, .un, .un, .un, .un, .un, .un, .un, .un, .un, .un, .un, .un, .un, .un, .un, .un, .un, .un, .un, .un, .un, .un, .un, .un, .un, .un, .un], [.row (3 : Go.TypeId) I64]⟩⟩]
abbrev V3 : Type := ((Option (List (List Int))) × (List Bool) × Int × Unit) × ((List Int) × Unit)
abbrev X3 : Type := ((Option (List (List Int))) × (List Bool) × Unit) × ((List Int) × Unit)
noncomputable def R3 {R : Type} (g0 : (Option (List (List Int)))) (keep1 : (List Bool)) (v6 : Int) (r0 : List Int) (k : V3 → Option R) (kx : X3 → Option R) : Option R := (if Decidable.decide (v6 < (↑(List.length r0) : Int)) = Bool.true then (if (0 : Int) ≤ v6 then (if v6 < (↑(List.length r0) : Int) then (if Int.toNat v6 < List.length r0 then k ((g0, keep1, IntKind.wrap .i64 (v6 + (1 : Int)), ()), (List.set r0 (Int.toNat v6) (-1 : Int), ()))
 else none)
 else none)
 else none)
 else kx (((g0, keep1, ()), (r0, ()))))
noncomputable def rd3 : Rd (VO s3) (Xs x3) := fun v k kx => match v with
  | ((g0, keep1, v6, _), (r0, _)) => R3 g0 keep1 v6 r0 k kx
noncomputable def F3 (g0 : (Option (List (List Int)))) (keep1 : (List Bool)) (v6 : Int) (r0 : List Int) : Option X3 := finOf rd3 ((g0, keep1, v6, ()), (r0, ()))
theorem F3_inv {g0 : (Option (List (List Int)))} {keep1 : (List Bool)} (I : Int → List Int → Prop) (μ : Int → List Int → Nat) (Q : X3 → Prop) (h : ∀ (v6 : Int) (r0 : List Int), I v6 r0 → Led (fun (R : Type) (k : V3 → Option R) (kx : X3 → Option R) => R3 g0 keep1 v6 r0 k kx) (fun v => ∃ (v6' : Int) (r0' : List Int), v = ((g0, keep1, v6', ()), (r0', ())) ∧ I v6' r0' ∧ μ v6' r0' < μ v6 r0) Q) : ∀ (v6 : Int) (r0 : List Int), I v6 r0 → ∃ z, F3 g0 keep1 v6 r0 = some z ∧ Q z := fun v6 r0 hi => by
  refine finOf_inv (V := V3) (X := X3) (rd := rd3) (fun v => ∃ (v6' : Int) (r0' : List Int), v = ((g0, keep1, v6', ()), (r0', ())) ∧ I v6' r0') (fun v => match v with
    | ((g0, keep1, v6, _), (r0, _)) => μ v6 r0) Q (fun v hv => ?_) ((g0, keep1, v6, ()), (r0, ())) ⟨v6, r0, rfl, hi⟩
  obtain ⟨v6, r0, rfl, hi⟩ := hv
  refine led_mono (h v6 r0 hi) ?_ (fun _ q => q)
  rintro v ⟨v6', r0', rfl, h1, h2⟩
  exact ⟨⟨v6', r0', rfl, h1⟩, h2⟩
noncomputable def L3 : Lp := ⟨3, ⟨[(0, none), (1, none), (5, none), (6, none)]⟩, s3, x3, fun v => match v with
  | ((g0, keep1, v6, _), (r0, _)) => F3 g0 keep1 v6 r0⟩
theorem ends3 : Ends L3 rd3 := ends_fin (fun v => by
  obtain ⟨⟨g0, keep1, v6, _⟩, ⟨r0, _⟩⟩ := v
  rfl)
abbrev s18 : Shape := ⟨[.v (.ptr (.one (.list (.list I64)))), .v (.list .bool), .un, .un, .un, .row 0, .un, .v I64, .un, .row 1, .v I64, .v (.list I64), .v I64, .un, .un, .un, .un, .un, .un, .un, .un, .un, .un, .un, .un, .un, .un, .un, .un, .un, .un, .un, .un, .un, .un, .un, .un, .un, .un, .un, .un, .un, .un, .un, .un, .un, .un, .un, .un, .un, .un, .un, .un, .un, .un, .un, .un, .un, .un, .un, .un, .un, .un, .un, .un, .un, .un, .un, .un, .un, .un, .un, .un, .un, .un, .un, .un, .un, .un, .un, .un, .un, .un, .un, .un, .un, .un, .un, .un, .un, .un, .un, .un, .un, .un, .un, .un, .un, .un, .un, .un, .un, .un, .un, .un, .un, .un], [.row (3 : Go.TypeId) I64, .row (3 : Go.TypeId) I64]⟩
abbrev x18 : List Way := [⟨(.ex 6), ⟨[(0, none), (1, none), (5, none), (7, none), (9, none), (10, none)]⟩, ⟨[.v (.ptr (.one (.list (.list I64)))), .v (.list .bool), .un, .un, .un, .row 0, .un, .v I64, .un, .row 1, .v I64, .un, .un, .un, .un, .un, .un, .un, .un, .un, .un, .un, .un, .un, .un, .un, .un, .un, .un, .un, .un, .un, .un, .un, .un, .un, .un, .un, .un, .un, .un, .un, .un, .un, .un, .un, .un, .un, .un, .un, .un, .un, .un, .un, .un, .un, .un, .un, .un, .un, .un, .un, .un, .un, .un, .un, .un, .un, .un, .un, .un, .un, .un, .un, .un, .un, .un, .un, .un, .un, .un, .un, .un, .un, .un, .un, .un, .un, .un, .un, .un, .un, .un, .un, .un, .un, .un, .un, .un, .un, .un, .un, .un, .un, .un, .un, .un], [.row (3 : Go.TypeId) I64, .row (3 : Go.TypeId) I64]⟩⟩]
abbrev V18 : Type := ((Option (List (List Int))) × (List Bool) × Int × Int × (List Int) × Int × Unit) × ((List Int) × (List Int) × Unit)
abbrev X18 : Type := ((Option (List (List Int))) × (List Bool) × Int × Int × Unit) × ((List Int) × (List Int) × Unit)
noncomputable def R18 {R : Type} (g0 : (Option (List (List Int)))) (keep1 : (List Bool)) (v7 : Int) (i10 : Int) (to11 : (List Int)) (k12 : Int) (r0 : List Int) (r1 : List Int) (k : V18 → Option R) (kx : X18 → Option R) : Option R := (if Decidable.decide (k12 < (↑(List.length to11) : Int)) = Bool.true then (if (0 : Int) ≤ k12 then (if k12 < (↑(List.length to11) : Int) then (if kept5.pre keep1 (List.getD to11 (Int.toNat k12) (0 : Int)) = Bool.true then (if (kept5.fn keep1 (List.getD to11 (Int.toNat k12) (0 : Int))).1 = Bool.true then (if (0 : Int) ≤ k12 then (if k12 < (↑(List.length to11) : Int) then (if (0 : Int) ≤ List.getD to11 (Int.toNat k12) (0 : Int) then (if List.getD to11 (Int.toNat k12) (0 : Int) < (↑(List.length r0) : Int) then (if Decidable.decide (List.getD r0 (Int.toNat (List.getD to11 (Int.toNat k12) (0 : Int))) (0 : Int) < (0 : Int)) = Bool.true then (if (0 : Int) ≤ k12 then (if k12 < (↑(List.length to11) : Int) then (if (0 : Int) ≤ List.getD to11 (Int.toNat k12) (0 : Int) then (if List.getD to11 (Int.toNat k12) (0 : Int) < (↑(List.length r0) : Int) then (if Int.toNat (List.getD to11 (Int.toNat k12) (0 : Int)) < List.length r0 then (if (0 : Int) ≤ k12 then (if k12 < (↑(List.length to11) : Int) then (if (List.length r1 + List.length [List.getD to11 (Int.toNat k12) (0 : Int)]) * (8 : Nat) ≤ (140737488355328 : Nat) then k ((g0, keep1, v7, i10, to11, IntKind.wrap .i64 (k12 + (1 : Int)), ()), (List.set r0 (Int.toNat (List.getD to11 (Int.toNat k12) (0 : Int))) v7, r1 ++ [List.getD to11 (Int.toNat k12) (0 : Int)], ()))
 else none)
 else none)
 else none)
 else none)
 else none)
 else none)
 else none)
 else none)
 else k ((g0, keep1, v7, i10, to11, IntKind.wrap .i64 (k12 + (1 : Int)), ()), (r0, r1, ())))
 else none)
 else none)
 else none)
 else none)
 else k ((g0, keep1, v7, i10, to11, IntKind.wrap .i64 (k12 + (1 : Int)), ()), (r0, r1, ())))
 else none)
 else none)
 else none)
 else kx (((g0, keep1, v7, i10, ()), (r0, r1, ()))))
noncomputable def rd18 : Rd (VO s18) (Xs x18) := fun v k kx => match v with
  | ((g0, keep1, v7, i10, to11, k12, _), (r0, r1, _)) => R18 g0 keep1 v7 i10 to11 k12 r0 r1 k kx
noncomputable def F18 (g0 : (Option (List (List Int)))) (keep1 : (List Bool)) (v7 : Int) (i10 : Int) (to11 : (List Int)) (k12 : Int) (r0 : List Int) (r1 : List Int) : Option X18 := finOf rd18 ((g0, keep1, v7, i10, to11, k12, ()), (r0, r1, ()))
theorem F18_inv {g0 : (Option (List (List Int)))} {keep1 : (List Bool)} {v7 : Int} {i10 : Int} {to11 : (List Int)} (I : Int → List Int → List Int → Prop) (μ : Int → List Int → List Int → Nat) (Q : X18 → Prop) (h : ∀ (k12 : Int) (r0 : List Int) (r1 : List Int), I k12 r0 r1 → Led (fun (R : Type) (k : V18 → Option R) (kx : X18 → Option R) => R18 g0 keep1 v7 i10 to11 k12 r0 r1 k kx) (fun v => ∃ (k12' : Int) (r0' : List Int) (r1' : List Int), v = ((g0, keep1, v7, i10, to11, k12', ()), (r0', r1', ())) ∧ I k12' r0' r1' ∧ μ k12' r0' r1' < μ k12 r0 r1) Q) : ∀ (k12 : Int) (r0 : List Int) (r1 : List Int), I k12 r0 r1 → ∃ z, F18 g0 keep1 v7 i10 to11 k12 r0 r1 = some z ∧ Q z := fun k12 r0 r1 hi => by
  refine finOf_inv (V := V18) (X := X18) (rd := rd18) (fun v => ∃ (k12' : Int) (r0' : List Int) (r1' : List Int), v = ((g0, keep1, v7, i10, to11, k12', ()), (r0', r1', ())) ∧ I k12' r0' r1') (fun v => match v with
    | ((g0, keep1, v7, i10, to11, k12, _), (r0, r1, _)) => μ k12 r0 r1) Q (fun v hv => ?_) ((g0, keep1, v7, i10, to11, k12, ()), (r0, r1, ())) ⟨k12, r0, r1, rfl, hi⟩
  obtain ⟨k12, r0, r1, rfl, hi⟩ := hv
  refine led_mono (h k12 r0 r1 hi) ?_ (fun _ q => q)
  rintro v ⟨k12', r0', r1', rfl, h1, h2⟩
  exact ⟨⟨k12', r0', r1', rfl, h1⟩, h2⟩
noncomputable def L18 : Lp := ⟨18, ⟨[(0, none), (1, none), (5, none), (7, none), (9, none), (10, none), (11, none), (12, none)]⟩, s18, x18, fun v => match v with
  | ((g0, keep1, v7, i10, to11, k12, _), (r0, r1, _)) => F18 g0 keep1 v7 i10 to11 k12 r0 r1⟩
theorem ends18 : Ends L18 rd18 := ends_fin (fun v => by
  obtain ⟨⟨g0, keep1, v7, i10, to11, k12, _⟩, ⟨r0, r1, _⟩⟩ := v
  rfl)
abbrev s14 : Shape := ⟨[.v (.ptr (.one (.list (.list I64)))), .v (.list .bool), .un, .un, .un, .row 0, .un, .v I64, .un, .row 1, .v I64, .un, .un, .un, .un, .un, .un, .un, .un, .un, .un, .un, .un, .un, .un, .un, .un, .un, .un, .un, .un, .un, .un, .un, .un, .un, .un, .un, .un, .un, .un, .un, .un, .un, .un, .un, .un, .un, .un, .un, .un, .un, .un, .un, .un, .un, .un, .un, .un, .un, .un, .un, .un, .un, .un, .un, .un, .un, .un, .un, .un, .un, .un, .un, .un, .un, .un, .un, .un, .un, .un, .un, .un, .un, .un, .un, .un, .un, .un, .un, .un, .un, .un, .un, .un, .un, .un, .un, .un, .un, .un, .un, .un, .un, .un, .un, .un], [.row (3 : Go.TypeId) I64, .row (3 : Go.TypeId) I64]⟩
abbrev x14 : List Way := [⟨(.ex 4), ⟨[(0, none), (1, none), (5, none), (7, none)]⟩, ⟨[.v (.ptr (.one (.list (.list I64)))), .v (.list .bool), .un, .un, .un, .row 0, .un, .v I64, .un, .un, .un, .un, .un, .un, .un, .un, .un, .un, .un, .un, .un, .un, .un, .un, .un, .un, .un, .un, .un, .un, .un, .un, .un, .un, .un, .un, .un, .un, .un, .un, .un, .un, .un, .un, .un, .un, .un, .un, .un, .un, .un, .un, .un, .un, .un, .un, .un, .un, .un, .un, .un, .un, .un, .un, .un, .un, .un, .un, .un, .un, .un, .un, .un, .un, .un, .un, .un, .un, .un, .un, .un, .un, .un, .un, .un, .un, .un, .un, .un, .un, .un, .un, .un, .un, .un, .un, .un, .un, .un, .un, .un, .un, .un, .un, .un, .un, .un], [.row (3 : Go.TypeId) I64]⟩⟩]
abbrev V14 : Type := ((Option (List (List Int))) × (List Bool) × Int × Int × Unit) × ((List Int) × (List Int) × Unit)
abbrev X14 : Type := ((Option (List (List Int))) × (List Bool) × Int × Unit) × ((List Int) × Unit)
noncomputable def R14 {R : Type} (g0 : (Option (List (List Int)))) (keep1 : (List Bool)) (v7 : Int) (i10 : Int) (r0 : List Int) (r1 : List Int) (k : V14 → Option R) (kx : X14 → Option R) : Option R := (if Decidable.decide (i10 < (↑(List.length r1) : Int)) = Bool.true then (if Option.isSome g0 = Bool.true then (if (0 : Int) ≤ i10 then (if i10 < (↑(List.length r1) : Int) then (if (0 : Int) ≤ List.getD r1 (Int.toNat i10) (0 : Int) then (if List.getD r1 (Int.toNat i10) (0 : Int) < (↑(List.length (Option.getD g0 [])) : Int) then (match F18 (g0) (keep1) (v7) (i10) (List.getD (Option.getD g0 []) (Int.toNat (List.getD r1 (Int.toNat i10) (0 : Int))) []) ((0 : Int)) (r0) (r1) with
  | some (((g0_2, keep1_2, v7_2, i10_2, _), (r0_2, r1_2, _))) => k ((g0_2, keep1_2, v7_2, IntKind.wrap .i64 (i10_2 + (1 : Int)), ()), (r0_2, r1_2, ()))
  | none => none)
 else none)
 else none)
 else none)
 else none)
 else none)
 else kx (((g0, keep1, v7, ()), (r0, ()))))
noncomputable def rd14 : Rd (VO s14) (Xs x14) := fun v k kx => match v with
  | ((g0, keep1, v7, i10, _), (r0, r1, _)) => R14 g0 keep1 v7 i10 r0 r1 k kx
noncomputable def F14 (g0 : (Option (List (List Int)))) (keep1 : (List Bool)) (v7 : Int) (i10 : Int) (r0 : List Int) (r1 : List Int) : Option X14 := finOf rd14 ((g0, keep1, v7, i10, ()), (r0, r1, ()))
theorem F14_inv {g0 : (Option (List (List Int)))} {keep1 : (List Bool)} {v7 : Int} (I : Int → List Int → List Int → Prop) (μ : Int → List Int → List Int → Nat) (Q : X14 → Prop) (h : ∀ (i10 : Int) (r0 : List Int) (r1 : List Int), I i10 r0 r1 → Led (fun (R : Type) (k : V14 → Option R) (kx : X14 → Option R) => R14 g0 keep1 v7 i10 r0 r1 k kx) (fun v => ∃ (i10' : Int) (r0' : List Int) (r1' : List Int), v = ((g0, keep1, v7, i10', ()), (r0', r1', ())) ∧ I i10' r0' r1' ∧ μ i10' r0' r1' < μ i10 r0 r1) Q) : ∀ (i10 : Int) (r0 : List Int) (r1 : List Int), I i10 r0 r1 → ∃ z, F14 g0 keep1 v7 i10 r0 r1 = some z ∧ Q z := fun i10 r0 r1 hi => by
  refine finOf_inv (V := V14) (X := X14) (rd := rd14) (fun v => ∃ (i10' : Int) (r0' : List Int) (r1' : List Int), v = ((g0, keep1, v7, i10', ()), (r0', r1', ())) ∧ I i10' r0' r1') (fun v => match v with
    | ((g0, keep1, v7, i10, _), (r0, r1, _)) => μ i10 r0 r1) Q (fun v hv => ?_) ((g0, keep1, v7, i10, ()), (r0, r1, ())) ⟨i10, r0, r1, rfl, hi⟩
  obtain ⟨i10, r0, r1, rfl, hi⟩ := hv
  refine led_mono (h i10 r0 r1 hi) ?_ (fun _ q => q)
  rintro v ⟨i10', r0', r1', rfl, h1, h2⟩
  exact ⟨⟨i10', r0', r1', rfl, h1⟩, h2⟩
noncomputable def L14 : Lp := ⟨14, ⟨[(0, none), (1, none), (5, none), (7, none), (9, none), (10, none)]⟩, s14, x14, fun v => match v with
  | ((g0, keep1, v7, i10, _), (r0, r1, _)) => F14 g0 keep1 v7 i10 r0 r1⟩
theorem ends14 : Ends L14 rd14 := ends_fin (fun v => by
  obtain ⟨⟨g0, keep1, v7, i10, _⟩, ⟨r0, r1, _⟩⟩ := v
  rfl)
abbrev s7 : Shape := ⟨[.v (.ptr (.one (.list (.list I64)))), .v (.list .bool), .un, .un, .un, .row 0, .un, .v I64, .un, .un, .un, .un, .un, .un, .un, .un, .un, .un, .un, .un, .un, .un, .un, .un, .un, .un, .un, .un, .un, .un, .un, .un, .un, .un, .un, .un, .un, .un, .un, .un, .un, .un, .un, .un, .un, .un, .un, .un, .un, .un, .un, .un, .un, .un, .un, .un, .un, .un, .un, .un, .un, .un, .un, .un, .un, .un, .un, .un, .un, .un, .un, .un, .un, .un, .un, .un, .un, .un, .un, .un, .un, .un, .un, .un, .un, .un, .un, .un, .un, .un, .un, .un, .un, .un, .un, .un, .un, .un, .un, .un, .un, .un, .un, .un, .un, .un, .un], [.row (3 : Go.TypeId) I64]⟩
abbrev x7 : List Way := [⟨(.ex 2), ⟨[(5, none)]⟩, ⟨[.un, .un, .un, .un, .un, .row 0, .un, .un, .un, .un, .un, .un, .un, .un, .un, .un, .un, .un, .un, .un, .un, .un, .un, .un, .un, .un, .un, .un, .un, .un, .un, .un, .un, .un, .un, .un, .un, .un, .un, .un, .un, .un, .un, .un, .un, .un, .un, .un, .un, .un, .un, .un, .un, .un, .un, .un, .un, .un, .un, .un, .un, .un, .un, .un, .un, .un, .un, .un, .un, .un, .un, .un, .un, .un, .un, .un, .un, .un, .un, .un, .un, .un, .un, .un, .un, .un, .un, .un, .un, .un, .un, .un, .un, .un, .un, .un, .un, .un, .un, .un, .un, .un, .un, .un, .un, .un, .un], [.row (3 : Go.TypeId) I64]⟩⟩]
abbrev V7 : Type := ((Option (List (List Int))) × (List Bool) × Int × Unit) × ((List Int) × Unit)
abbrev X7 : Type := (Unit) × ((List Int) × Unit)
noncomputable def R7 {R : Type} (g0 : (Option (List (List Int)))) (keep1 : (List Bool)) (v7 : Int) (r0 : List Int) (k : V7 → Option R) (kx : X7 → Option R) : Option R := (if Decidable.decide (v7 < (↑(List.length r0) : Int)) = Bool.true then (if kept5.pre keep1 v7 = Bool.true then (if (!(kept5.fn keep1 v7).1) = Bool.false then (if (0 : Int) ≤ v7 then (if v7 < (↑(List.length r0) : Int) then (if Decidable.decide (List.getD r0 (Int.toNat v7) (0 : Int) ≥ (0 : Int)) = Bool.true then k ((g0, keep1, IntKind.wrap .i64 (v7 + (1 : Int)), ()), (r0, ()))
 else (if (0 : Int) ≤ v7 then (if v7 < (↑(List.length r0) : Int) then (if Int.toNat v7 < List.length r0 then (match F14 (g0) (keep1) (v7) ((0 : Int)) (List.set r0 (Int.toNat v7) v7) ([v7]) with
  | some (((g0_3, keep1_3, v7_3, _), (r0_3, _))) => k ((g0_3, keep1_3, IntKind.wrap .i64 (v7_3 + (1 : Int)), ()), (r0_3, ()))
  | none => none)
 else none)
 else none)
 else none))
 else none)
 else none)
 else k ((g0, keep1, IntKind.wrap .i64 (v7 + (1 : Int)), ()), (r0, ())))
 else none)
 else kx (((()), (r0, ()))))
noncomputable def rd7 : Rd (VO s7) (Xs x7) := fun v k kx => match v with
  | ((g0, keep1, v7, _), (r0, _)) => R7 g0 keep1 v7 r0 k kx
noncomputable def F7 (g0 : (Option (List (List Int)))) (keep1 : (List Bool)) (v7 : Int) (r0 : List Int) : Option X7 := finOf rd7 ((g0, keep1, v7, ()), (r0, ()))
theorem F7_inv {g0 : (Option (List (List Int)))} {keep1 : (List Bool)} (I : Int → List Int → Prop) (μ : Int → List Int → Nat) (Q : X7 → Prop) (h : ∀ (v7 : Int) (r0 : List Int), I v7 r0 → Led (fun (R : Type) (k : V7 → Option R) (kx : X7 → Option R) => R7 g0 keep1 v7 r0 k kx) (fun v => ∃ (v7' : Int) (r0' : List Int), v = ((g0, keep1, v7', ()), (r0', ())) ∧ I v7' r0' ∧ μ v7' r0' < μ v7 r0) Q) : ∀ (v7 : Int) (r0 : List Int), I v7 r0 → ∃ z, F7 g0 keep1 v7 r0 = some z ∧ Q z := fun v7 r0 hi => by
  refine finOf_inv (V := V7) (X := X7) (rd := rd7) (fun v => ∃ (v7' : Int) (r0' : List Int), v = ((g0, keep1, v7', ()), (r0', ())) ∧ I v7' r0') (fun v => match v with
    | ((g0, keep1, v7, _), (r0, _)) => μ v7 r0) Q (fun v hv => ?_) ((g0, keep1, v7, ()), (r0, ())) ⟨v7, r0, rfl, hi⟩
  obtain ⟨v7, r0, rfl, hi⟩ := hv
  refine led_mono (h v7 r0 hi) ?_ (fun _ q => q)
  rintro v ⟨v7', r0', rfl, h1, h2⟩
  exact ⟨⟨v7', r0', rfl, h1⟩, h2⟩
noncomputable def L7 : Lp := ⟨7, ⟨[(0, none), (1, none), (5, none), (7, none)]⟩, s7, x7, fun v => match v with
  | ((g0, keep1, v7, _), (r0, _)) => F7 g0 keep1 v7 r0⟩
theorem ends7 : Ends L7 rd7 := ends_fin (fun v => by
  obtain ⟨⟨g0, keep1, v7, _⟩, ⟨r0, _⟩⟩ := v
  rfl)
noncomputable def env : Env := mkEnv tab [(119, kept5.sig)] 0 [(16, [0, 1, 2, 3, 4, 5, 6, 7, 8, 9, 10])] [L3, L18, L14, L7]
theorem round3 : RoundIs env (sub [true, true, false, true, false, false] code) L3 rd3 := fun R v k kx => by kernel_rfl
theorem round18 : RoundIs env (sub [true, true, true, false, true, false, false, true, false, false, true, true, true, true, true, false, false, true, false, false, true, true, false, false] code) L18 rd18 := fun R v k kx => by kernel_rfl
theorem round14 : RoundIs env (sub [true, true, true, false, true, false, false, true, false, false, true, true, true, true, true, false, false] code) L14 rd14 := fun R v k kx => by kernel_rfl
theorem round7 : RoundIs env (sub [true, true, true, false, true, false, false] code) L7 rd7 := fun R v k kx => by kernel_rfl
abbrev D : Type := ((List Int) × Unit)
noncomputable def run' (g0 : (Option (List (List Int)))) (keep1 : (List Bool)) : Option D := (if Option.isSome g0 = Bool.true then (if (↑(List.length (Option.getD g0 [])) : Int) = (↑(List.length (Option.getD g0 [])) : Int) then (if Int.toNat (↑(List.length (Option.getD g0 [])) : Int) * (8 : Nat) ≤ (140737488355328 : Nat) then (match F3 (g0) (keep1) ((0 : Int)) (List.replicate (Int.toNat (↑(List.length (Option.getD g0 [])) : Int)) (0 : Int)) with
  | some (((g0_1, keep1_1, _), (r0_1, _))) => (match F7 (g0_1) (keep1_1) ((0 : Int)) (r0_1) with
  | some ((_, (r0_4, _))) => some (r0_4, ())
  | none => none)
  | none => none)
 else none)
 else none)
 else none)
noncomputable def run (d : Ds (List.map PM.ty ps)) : Option (Ds (muts ps ++ List.map PM.ty rs)) := match d with
  | (g0, keep1, _) => run' g0 keep1
theorem run_is : ∀ d, runF env 107 code [4] ps rs d = run d := fun d => by kernel_rfl
theorem loops : LoopsOk env code := loopsOk_of (l := [[true, true, false, true, false, false], [true, true, true, false, true, false, false], [true, true, true, false, true, false, false, true, false, false, true, true, true, true, true, false, false], [true, true, true, false, true, false, false, true, false, false, true, true, true, true, true, false, false, true, false, false, true, true, false, false]]) (by kernel_rfl) (fun p hp => by
  simp only [List.mem_cons, List.not_mem_nil, or_false] at hp
  rcases hp with rfl | rfl | rfl | rfl
  · exact loopOk_lp (L := L3) (x := sub [true, true, false, true, false, false] code) (by kernel_rfl) (by simp [L3]) round3 ends3
  · exact loopOk_lp (L := L7) (x := sub [true, true, true, false, true, false, false] code) (by kernel_rfl) (by simp [L7]) round7 ends7
  · exact loopOk_lp (L := L14) (x := sub [true, true, true, false, true, false, false, true, false, false, true, true, true, true, true, false, false] code) (by kernel_rfl) (by simp [L14]) round14 ends14
  · exact loopOk_lp (L := L18) (x := sub [true, true, true, false, true, false, false, true, false, false, true, true, true, true, true, false, false, true, false, false, true, true, false, false] code) (by kernel_rfl) (by simp [L18]) round18 ends18
  )
noncomputable def pre (g0 : (Option (List (List Int)))) (keep1 : (List Bool)) : Bool := (run' g0 keep1).isSome
noncomputable def fn (g0 : (Option (List (List Int)))) (keep1 : (List Bool)) : D := match run' g0 keep1 with
  | some x => x
  | none => default
noncomputable def sig : Sig := ⟨ps, rs, fun d => match d with
  | (g0, keep1, _) => pre g0 keep1, fun d => match d with
  | (g0, keep1, _) => fn g0 keep1, false⟩
theorem run_fn (g0 : (Option (List (List Int)))) (keep1 : (List Bool)) (h : pre g0 keep1 = true) : run' g0 keep1 = some (fn g0 keep1) := by
  unfold pre at h
  unfold fn
  cases e : run' g0 keep1 with
  | some x => rfl
  | none => rw [e] at h; cases h
theorem is_fn (g0 : (Option (List (List Int)))) (keep1 : (List Bool)) {x : D} (h : run' g0 keep1 = some x) : pre g0 keep1 = true ∧ fn g0 keep1 = x := by
  unfold pre fn
  rw [h]
  exact ⟨rfl, rfl⟩
theorem sound {ρ : Obs} (hE : EnvOk Go.Proofs.Try.prog ρ env) : Sound Go.Proofs.Try.prog ρ 54 sig := sound_of (fn := Go.Proofs.Try.f54) (c := code) (res := [4]) hE (by kernel_rfl) (by kernel_rfl) (by kernel_rfl) (by kernel_rfl) (by kernel_rfl) loops rfl (show 2 ≤ 107 by decide) (fun d hd => (run_is d).trans (by
  obtain ⟨g0, keep1, _⟩ := d
  exact run_fn g0 keep1 hd))
theorem enters : Enters Go.Proofs.Try.prog 54 := enters_of (fn := Go.Proofs.Try.f54) (by kernel_rfl) (by kernel_rfl) (by kernel_rfl)
theorem ok {ρ : Obs} (h : ∀ p ∈ ([(119, kept5.sig)] : List (FuncId × Sig)), Enters Go.Proofs.Try.prog p.1 ∧ Sound Go.Proofs.Try.prog ρ p.1 p.2) : Enters Go.Proofs.Try.prog 54 ∧ Sound Go.Proofs.Try.prog ρ 54 sig := ⟨enters, sound (envOk_of tabOk h)⟩
theorem okR : Enters Go.Proofs.Try.prog 54 ∧ Sound Go.Proofs.Try.prog rho 54 sig := ok (fun p hp => by
  simp only [List.mem_cons, List.not_mem_nil, or_false] at hp
  rcases hp with rfl
  · exact kept5.okR)
end Parts5
/-! pith/pithref.SameList -/
namespace SameL5
abbrev ps : List PM := [.val (.pair I64 (.list I64)), .val (.pair I64 (.list I64))]
abbrev rs : List PM := [.val .bool]
noncomputable abbrev code : Code := (Go.Proofs.Try.f124.body.getD .skip)
noncomputable def env : Env := mkEnv tab [(53, SameIntsH.sig)] 0 [] []
abbrev D : Type := (Bool × Unit)
noncomputable def run' (a0 : (Int × (List Int))) (b1 : (Int × (List Int))) : Option D := (if SameIntsH.pre a0.2 b1.2 = Bool.true then (if (SameIntsH.fn a0.2 b1.2).1 = Bool.true then some (a0.1 == b1.1, ())
 else some (Bool.false, ()))
 else none)
noncomputable def run (d : Ds (List.map PM.ty ps)) : Option (Ds (muts ps ++ List.map PM.ty rs)) := match d with
  | (a0, b1, _) => run' a0 b1
theorem run_is : ∀ d, runF env 19 code [4] ps rs d = run d := fun d => by kernel_rfl
theorem loops : LoopsOk env code := loopsOk_of (l := []) (by kernel_rfl) (fun p hp => by
  cases hp)
noncomputable def pre (a0 : (Int × (List Int))) (b1 : (Int × (List Int))) : Bool := (run' a0 b1).isSome
noncomputable def fn (a0 : (Int × (List Int))) (b1 : (Int × (List Int))) : D := match run' a0 b1 with
  | some x => x
  | none => default
noncomputable def sig : Sig := ⟨ps, rs, fun d => match d with
  | (a0, b1, _) => pre a0 b1, fun d => match d with
  | (a0, b1, _) => fn a0 b1, false⟩
theorem run_fn (a0 : (Int × (List Int))) (b1 : (Int × (List Int))) (h : pre a0 b1 = true) : run' a0 b1 = some (fn a0 b1) := by
  unfold pre at h
  unfold fn
  cases e : run' a0 b1 with
  | some x => rfl
  | none => rw [e] at h; cases h
theorem is_fn (a0 : (Int × (List Int))) (b1 : (Int × (List Int))) {x : D} (h : run' a0 b1 = some x) : pre a0 b1 = true ∧ fn a0 b1 = x := by
  unfold pre fn
  rw [h]
  exact ⟨rfl, rfl⟩
theorem sound {ρ : Obs} (hE : EnvOk Go.Proofs.Try.prog ρ env) : Sound Go.Proofs.Try.prog ρ 124 sig := sound_of (fn := Go.Proofs.Try.f124) (c := code) (res := [4]) hE (by kernel_rfl) (by kernel_rfl) (by kernel_rfl) (by kernel_rfl) (by kernel_rfl) loops rfl (show 2 ≤ 19 by decide) (fun d hd => (run_is d).trans (by
  obtain ⟨a0, b1, _⟩ := d
  exact run_fn a0 b1 hd))
theorem enters : Enters Go.Proofs.Try.prog 124 := enters_of (fn := Go.Proofs.Try.f124) (by kernel_rfl) (by kernel_rfl) (by kernel_rfl)
theorem ok {ρ : Obs} (h : ∀ p ∈ ([(53, SameIntsH.sig)] : List (FuncId × Sig)), Enters Go.Proofs.Try.prog p.1 ∧ Sound Go.Proofs.Try.prog ρ p.1 p.2) : Enters Go.Proofs.Try.prog 124 ∧ Sound Go.Proofs.Try.prog ρ 124 sig := ⟨enters, sound (envOk_of tabOk h)⟩
theorem okR : Enters Go.Proofs.Try.prog 124 ∧ Sound Go.Proofs.Try.prog rho 124 sig := ok (fun p hp => by
  simp only [List.mem_cons, List.not_mem_nil, or_false] at hp
  rcases hp with rfl
  · exact SameIntsH.okR)
end SameL5
end Go.Proofs.Ythbojpaghbbnnaa.Z
