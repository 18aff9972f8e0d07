/- What functions compute from plain values: few5, room5, still5, made5, SameLL, says5, GraphMakes, GraphAsks, ChangesO, GraphChanged, flags5, unturn5. Printed by a small program of ours (zgen, zg.py); no condition. -/
import Derived.Test.YthbojpaghbbnnaaZN
import Derived.Test.YthbojpaghbbnnaaZT
import Derived.Test.YthbojpaghbbnnaaZP
import Derived.Test.YthbojpaghbbnnaaZS
import Derived.Test.YthbojpaghbbnnaaYA
import Derived.KernelRfl
namespace Go.Proofs.Ythbojpaghbbnnaa.Z
open Go Go.RowKit
set_option linter.unusedVariables false
set_option linter.unusedSimpArgs false
/-! pith/pithlaw5.few -/
namespace few5
abbrev ps : List PM := [.val I64, .val (.list Pr)]
abbrev rs : List PM := [.val .bool]
noncomputable abbrev code : Code := (Go.Proofs.Try.f48.body.getD .skip)
noncomputable def env : Env := mkEnv tab [] 0 [] []
abbrev D : Type := (Bool × Unit)
noncomputable def run' (n0 : Int) (pairs1 : (List (Int × Int))) : Option D := (if Decidable.decide ((↑(List.length pairs1) : Int) ≤ (20000 : Int)) = Bool.true then (if Decidable.decide (n0 ≤ (3000 : Int)) = Bool.false then some (Decidable.decide (n0 > (16777216 : Int)), ())
 else some (Bool.true, ()))
 else some (Bool.false, ()))
noncomputable def run (d : Ds (List.map PM.ty ps)) : Option (Ds (muts ps ++ List.map PM.ty rs)) := match d with
  | (n0, pairs1, _) => run' n0 pairs1
theorem run_is : ∀ d, runF env 16 code [4] ps rs d = run d := fun d => by kernel_rfl
theorem loops : LoopsOk env code := loopsOk_of (l := []) (by kernel_rfl) (fun p hp => by
  cases hp)
noncomputable def pre (n0 : Int) (pairs1 : (List (Int × Int))) : Bool := (run' n0 pairs1).isSome
noncomputable def fn (n0 : Int) (pairs1 : (List (Int × Int))) : D := match run' n0 pairs1 with
  | some x => x
  | none => default
noncomputable def sig : Sig := ⟨ps, rs, fun d => match d with
  | (n0, pairs1, _) => pre n0 pairs1, fun d => match d with
  | (n0, pairs1, _) => fn n0 pairs1, false⟩
theorem run_fn (n0 : Int) (pairs1 : (List (Int × Int))) (h : pre n0 pairs1 = true) : run' n0 pairs1 = some (fn n0 pairs1) := by
  unfold pre at h
  unfold fn
  cases e : run' n0 pairs1 with
  | some x => rfl
  | none => rw [e] at h; cases h
theorem is_fn (n0 : Int) (pairs1 : (List (Int × Int))) {x : D} (h : run' n0 pairs1 = some x) : pre n0 pairs1 = true ∧ fn n0 pairs1 = x := by
  unfold pre fn
  rw [h]
  exact ⟨rfl, rfl⟩
theorem sound {ρ : Obs} (hE : EnvOk Go.Proofs.Try.prog ρ env) : Sound Go.Proofs.Try.prog ρ 48 sig := sound_of (fn := Go.Proofs.Try.f48) (c := code) (res := [4]) hE (by kernel_rfl) (by kernel_rfl) (by kernel_rfl) (by kernel_rfl) (by kernel_rfl) loops rfl (show 2 ≤ 16 by decide) (fun d hd => (run_is d).trans (by
  obtain ⟨n0, pairs1, _⟩ := d
  exact run_fn n0 pairs1 hd))
theorem enters : Enters Go.Proofs.Try.prog 48 := enters_of (fn := Go.Proofs.Try.f48) (by kernel_rfl) (by kernel_rfl) (by kernel_rfl)
theorem ok {ρ : Obs} (h : ∀ p ∈ ([] : List (FuncId × Sig)), Enters Go.Proofs.Try.prog p.1 ∧ Sound Go.Proofs.Try.prog ρ p.1 p.2) : Enters Go.Proofs.Try.prog 48 ∧ Sound Go.Proofs.Try.prog ρ 48 sig := ⟨enters, sound (envOk_of tabOk h)⟩
theorem okR : Enters Go.Proofs.Try.prog 48 ∧ Sound Go.Proofs.Try.prog rho 48 sig := ok (fun p hp => by
  cases hp)
end few5
/-! pith/pithlaw5.room -/
namespace room5
abbrev ps : List PM := [.val (.list Pr)]
abbrev rs : List PM := [.cutp 32 Pr]
noncomputable abbrev code : Code := (Go.Proofs.Try.f111.body.getD .skip)
noncomputable def env : Env := mkEnv tab [(34, PairsO.sig)] 0 [] []
abbrev D : Type := (((List (Int × Int)) × Int) × Unit)
noncomputable def run' (l0 : (List (Int × Int))) : Option D := (if PairsO.pre l0 = Bool.true then (if (List.length (PairsO.fn l0).1 + List.length [((201 : Int), (202 : Int))]) * (16 : Nat) ≤ (140737488355328 : Nat) then (if (↑(List.length l0) : Int) ≤ (↑(List.length ((PairsO.fn l0).1 ++ [((201 : Int), (202 : Int))])) : Int) then some (((PairsO.fn l0).1 ++ [((201 : Int), (202 : Int))], (↑(Int.toNat (↑(List.length l0) : Int)) : Int)), ())
 else none)
 else none)
 else none)
noncomputable def run (d : Ds (List.map PM.ty ps)) : Option (Ds (muts ps ++ List.map PM.ty rs)) := match d with
  | (l0, _) => run' l0
theorem run_is : ∀ d, runF env 13 code [2] ps rs d = run d := fun d => by kernel_rfl
theorem loops : LoopsOk env code := loopsOk_of (l := []) (by kernel_rfl) (fun p hp => by
  cases hp)
noncomputable def pre (l0 : (List (Int × Int))) : Bool := (run' l0).isSome
noncomputable def fn (l0 : (List (Int × Int))) : D := match run' l0 with
  | some x => x
  | none => default
noncomputable def sig : Sig := ⟨ps, rs, fun d => match d with
  | (l0, _) => pre l0, fun d => match d with
  | (l0, _) => fn l0, false⟩
theorem run_fn (l0 : (List (Int × Int))) (h : pre l0 = true) : run' l0 = some (fn l0) := by
  unfold pre at h
  unfold fn
  cases e : run' l0 with
  | some x => rfl
  | none => rw [e] at h; cases h
theorem is_fn (l0 : (List (Int × Int))) {x : D} (h : run' l0 = some x) : pre l0 = true ∧ fn l0 = x := by
  unfold pre fn
  rw [h]
  exact ⟨rfl, rfl⟩
theorem sound {ρ : Obs} (hE : EnvOk Go.Proofs.Try.prog ρ env) : Sound Go.Proofs.Try.prog ρ 111 sig := sound_of (fn := Go.Proofs.Try.f111) (c := code) (res := [2]) hE (by kernel_rfl) (by kernel_rfl) (by kernel_rfl) (by kernel_rfl) (by kernel_rfl) loops rfl (show 1 ≤ 13 by decide) (fun d hd => (run_is d).trans (by
  obtain ⟨l0, _⟩ := d
  exact run_fn l0 hd))
theorem enters : Enters Go.Proofs.Try.prog 111 := enters_of (fn := Go.Proofs.Try.f111) (by kernel_rfl) (by kernel_rfl) (by kernel_rfl)
theorem ok {ρ : Obs} (h : ∀ p ∈ ([(34, PairsO.sig)] : List (FuncId × Sig)), Enters Go.Proofs.Try.prog p.1 ∧ Sound Go.Proofs.Try.prog ρ p.1 p.2) : Enters Go.Proofs.Try.prog 111 ∧ Sound Go.Proofs.Try.prog ρ 111 sig := ⟨enters, sound (envOk_of tabOk h)⟩
theorem okR : Enters Go.Proofs.Try.prog 111 ∧ Sound Go.Proofs.Try.prog rho 111 sig := ok (fun p hp => by
  simp only [List.mem_cons, List.not_mem_nil, or_false] at hp
  rcases hp with rfl
  · exact PairsO.okR)
end room5
/-! pith/pithlaw5.still -/
namespace still5
abbrev ps : List PM := [.cutp 32 Pr, .val (.list Pr)]
abbrev rs : List PM := [.val .bool]
noncomputable abbrev code : Code := (Go.Proofs.Try.f113.body.getD .skip)
abbrev s5 : Shape := ⟨[.un, .un, .un, .un, .un, .v .bool, .cut 0 true, .v .bool, .v I64, .un, .un, .un, .un, .un, .un, .un, .un, .un, .un, .un, .un, .un, .un, .un, .un, .un, .un, .un, .un, .un, .un, .un, .un, .un, .un, .un, .un, .un, .un, .un, .un, .un, .un, .un, .un, .un, .un], [.row (32 : Go.TypeId) (.pair I64 I64)]⟩
abbrev x5 : List Way := [⟨(.ex 0), ⟨[(5, none), (7, none)]⟩, ⟨[.un, .un, .un, .un, .un, .v .bool, .un, .v .bool, .un, .un, .un, .un, .un, .un, .un, .un, .un, .un, .un, .un, .un, .un, .un, .un, .un, .un, .un, .un, .un, .un, .un, .un, .un, .un, .un, .un, .un, .un, .un, .un, .un, .un, .un, .un, .un, .un, .un], [.row (32 : Go.TypeId) (.pair I64 I64)]⟩⟩]
abbrev V5 : Type := (Bool × Nat × Bool × Int × Unit) × ((List (Int × Int)) × Unit)
abbrev X5 : Type := (Bool × Bool × Unit) × ((List (Int × Int)) × Unit)
noncomputable def R5 {R : Type} (same5 : Bool) (all6 : Nat) (ok7 : Bool) (i8 : Int) (r0 : List (Int × Int)) (k : V5 → Option R) (kx : X5 → Option R) : Option R := (if Decidable.decide (i8 < (↑all6 : Int)) = Bool.true then (if (0 : Int) ≤ i8 then (if i8 < (↑all6 : Int) then (if Int.toNat i8 < List.length r0 then k ((same5, all6, ok7, IntKind.wrap .i64 (i8 + (1 : Int)), ()), (List.set r0 (Int.toNat i8) ((7 : Int), (8 : Int)), ()))
 else none)
 else none)
 else none)
 else kx (((same5, ok7, ()), (r0, ()))))
noncomputable def rd5 : Rd (VO s5) (Xs x5) := fun v k kx => match v with
  | ((same5, all6, ok7, i8, _), (r0, _)) => R5 same5 all6 ok7 i8 r0 k kx
noncomputable def F5 (same5 : Bool) (all6 : Nat) (ok7 : Bool) (i8 : Int) (r0 : List (Int × Int)) : Option X5 := finOf rd5 ((same5, all6, ok7, i8, ()), (r0, ()))
theorem F5_inv {same5 : Bool} {all6 : Nat} {ok7 : Bool} (I : Int → List (Int × Int) → Prop) (μ : Int → List (Int × Int) → Nat) (Q : X5 → Prop) (h : ∀ (i8 : Int) (r0 : List (Int × Int)), I i8 r0 → Led (fun (R : Type) (k : V5 → Option R) (kx : X5 → Option R) => R5 same5 all6 ok7 i8 r0 k kx) (fun v => ∃ (i8' : Int) (r0' : List (Int × Int)), v = ((same5, all6, ok7, i8', ()), (r0', ())) ∧ I i8' r0' ∧ μ i8' r0' < μ i8 r0) Q) : ∀ (i8 : Int) (r0 : List (Int × Int)), I i8 r0 → ∃ z, F5 same5 all6 ok7 i8 r0 = some z ∧ Q z := fun i8 r0 hi => by
  refine finOf_inv (V := V5) (X := X5) (rd := rd5) (fun v => ∃ (i8' : Int) (r0' : List (Int × Int)), v = ((same5, all6, ok7, i8', ()), (r0', ())) ∧ I i8' r0') (fun v => match v with
    | ((same5, all6, ok7, i8, _), (r0, _)) => μ i8 r0) Q (fun v hv => ?_) ((same5, all6, ok7, i8, ()), (r0, ())) ⟨i8, r0, rfl, hi⟩
  obtain ⟨i8, r0, rfl, hi⟩ := hv
  refine led_mono (h i8 r0 hi) ?_ (fun _ q => q)
  rintro v ⟨i8', r0', rfl, h1, h2⟩
  exact ⟨⟨i8', r0', rfl, h1⟩, h2⟩
noncomputable def L5 : Lp := ⟨5, ⟨[(5, none), (6, none), (7, none), (8, none)]⟩, s5, x5, fun v => match v with
  | ((same5, all6, ok7, i8, _), (r0, _)) => F5 same5 all6 ok7 i8 r0⟩
theorem ends5 : Ends L5 rd5 := ends_fin (fun v => by
  obtain ⟨⟨same5, all6, ok7, i8, _⟩, ⟨r0, _⟩⟩ := v
  rfl)
noncomputable def env : Env := mkEnv tab [(60, SamePairs.sig)] 1 [] [L5]
theorem round5 : RoundIs env (sub [true, true, true, true, false, true, false, false] code) L5 rd5 := fun R v k kx => by kernel_rfl
abbrev D : Type := ((List (Int × Int)) × Bool × Unit)
noncomputable def run' (m0_0 : (List (Int × Int))) (m0_1 : Int) (l1 : (List (Int × Int))) : Option D := (if SamePairs.pre (List.take (Int.toNat m0_1) m0_0) l1 = Bool.true then (if (0 : Int) ≤ IntKind.wrap .i64 ((↑(List.length l1) : Int) + (1 : Int)) then (if IntKind.wrap .i64 ((↑(List.length l1) : Int) + (1 : Int)) ≤ (↑(List.length m0_0) : Int) then (if (↑(List.length l1) : Int) < (↑(Int.toNat (IntKind.wrap .i64 ((↑(List.length l1) : Int) + (1 : Int)))) : Int) then (if ((List.getD m0_0 (Int.toNat (↑(List.length l1) : Int)) ((0 : Int), (0 : Int))).1 == (201 : Int)) = Bool.true then (if (↑(List.length l1) : Int) < (↑(Int.toNat (IntKind.wrap .i64 ((↑(List.length l1) : Int) + (1 : Int)))) : Int) then (match F5 ((SamePairs.fn (List.take (Int.toNat m0_1) m0_0) l1).1) (Int.toNat (IntKind.wrap .i64 ((↑(List.length l1) : Int) + (1 : Int)))) ((List.getD m0_0 (Int.toNat (↑(List.length l1) : Int)) ((0 : Int), (0 : Int))).2 == (202 : Int)) ((0 : Int)) (m0_0) with
  | some (((same5_1, ok7_1, _), (r0_1, _))) => (if same5_1 = Bool.true then some (r0_1, ok7_1, ())
 else some (r0_1, Bool.false, ()))
  | none => none)
 else none)
 else (match F5 ((SamePairs.fn (List.take (Int.toNat m0_1) m0_0) l1).1) (Int.toNat (IntKind.wrap .i64 ((↑(List.length l1) : Int) + (1 : Int)))) (Bool.false) ((0 : Int)) (m0_0) with
  | some (((same5_2, ok7_2, _), (r0_2, _))) => (if same5_2 = Bool.true then some (r0_2, ok7_2, ())
 else some (r0_2, Bool.false, ()))
  | none => none))
 else none)
 else none)
 else none)
 else none)
noncomputable def run (d : Ds (List.map PM.ty ps)) : Option (Ds (muts ps ++ List.map PM.ty rs)) := match d with
  | ((m0_0, m0_1), l1, _) => run' m0_0 m0_1 l1
theorem run_is : ∀ d, runF env 47 code [4] ps rs d = run d := fun d => by kernel_rfl
theorem loops : LoopsOk env code := loopsOk_of (l := [[true, true, true, true, false, true, false, false]]) (by kernel_rfl) (fun p hp => by
  simp only [List.mem_cons, List.not_mem_nil, or_false] at hp
  rcases hp with rfl
  · exact loopOk_lp (L := L5) (x := sub [true, true, true, true, false, true, false, false] code) (by kernel_rfl) (by simp [L5]) round5 ends5
  )
noncomputable def pre (m0_0 : (List (Int × Int))) (m0_1 : Int) (l1 : (List (Int × Int))) : Bool := (run' m0_0 m0_1 l1).isSome
noncomputable def fn (m0_0 : (List (Int × Int))) (m0_1 : Int) (l1 : (List (Int × Int))) : D := match run' m0_0 m0_1 l1 with
  | some x => x
  | none => default
noncomputable def sig : Sig := ⟨ps, rs, fun d => match d with
  | ((m0_0, m0_1), l1, _) => pre m0_0 m0_1 l1, fun d => match d with
  | ((m0_0, m0_1), l1, _) => fn m0_0 m0_1 l1, false⟩
theorem run_fn (m0_0 : (List (Int × Int))) (m0_1 : Int) (l1 : (List (Int × Int))) (h : pre m0_0 m0_1 l1 = true) : run' m0_0 m0_1 l1 = some (fn m0_0 m0_1 l1) := by
  unfold pre at h
  unfold fn
  cases e : run' m0_0 m0_1 l1 with
  | some x => rfl
  | none => rw [e] at h; cases h
theorem is_fn (m0_0 : (List (Int × Int))) (m0_1 : Int) (l1 : (List (Int × Int))) {x : D} (h : run' m0_0 m0_1 l1 = some x) : pre m0_0 m0_1 l1 = true ∧ fn m0_0 m0_1 l1 = x := by
  unfold pre fn
  rw [h]
  exact ⟨rfl, rfl⟩
theorem sound {ρ : Obs} (hE : EnvOk Go.Proofs.Try.prog ρ env) : Sound Go.Proofs.Try.prog ρ 113 sig := sound_of (fn := Go.Proofs.Try.f113) (c := code) (res := [4]) hE (by kernel_rfl) (by kernel_rfl) (by kernel_rfl) (by kernel_rfl) (by kernel_rfl) loops rfl (show 2 ≤ 47 by decide) (fun d hd => (run_is d).trans (by
  obtain ⟨⟨m0_0, m0_1⟩, l1, _⟩ := d
  exact run_fn m0_0 m0_1 l1 hd))
theorem enters : Enters Go.Proofs.Try.prog 113 := enters_of (fn := Go.Proofs.Try.f113) (by kernel_rfl) (by kernel_rfl) (by kernel_rfl)
theorem ok {ρ : Obs} (h : ∀ p ∈ ([(60, SamePairs.sig)] : List (FuncId × Sig)), Enters Go.Proofs.Try.prog p.1 ∧ Sound Go.Proofs.Try.prog ρ p.1 p.2) : Enters Go.Proofs.Try.prog 113 ∧ Sound Go.Proofs.Try.prog ρ 113 sig := ⟨enters, sound (envOk_of tabOk h)⟩
theorem okR : Enters Go.Proofs.Try.prog 113 ∧ Sound Go.Proofs.Try.prog rho 113 sig := ok (fun p hp => by
  simp only [List.mem_cons, List.not_mem_nil, or_false] at hp
  rcases hp with rfl
  · exact SamePairs.okR)
end still5
/-! pith/pithlaw5.made -/
namespace made5
abbrev ps : List PM := [.val I64, .val (.list Pr)]
abbrev rs : List PM := [.val (.obj 0), .val (.ptr Rf), .val .bool]
noncomputable abbrev code : Code := (Go.Proofs.Try.f49.body.getD .skip)
noncomputable def env : Env := mkEnv tab [(111, room5.sig), (105, Make.sig), (112, Make5.sig), (113, still5.sig), (44, num5.sig)] 0 [] []
abbrev D : Type := ((Option Gr) × (Option (List (List Int))) × Bool × Unit)
noncomputable def run' (n0 : Int) (pairs1 : (List (Int × Int))) : Option D := (if room5.pre pairs1 = Bool.true then (if Make.pre n0 (List.take (Int.toNat (room5.fn pairs1).1.2) (room5.fn pairs1).1.1) = Bool.true then (if Make5.pre n0 pairs1 = Bool.true then (if still5.pre (room5.fn pairs1).1.1 (↑(Int.toNat (room5.fn pairs1).1.2) : Int) pairs1 = Bool.true then (if (still5.fn (room5.fn pairs1).1.1 (↑(Int.toNat (room5.fn pairs1).1.2) : Int) pairs1).2.1 = Bool.true then (if num5.pre (Make.fn n0 (List.take (Int.toNat (room5.fn pairs1).1.2) (room5.fn pairs1).1.1)).2.1 = Bool.true then (if ((num5.fn (Make.fn n0 (List.take (Int.toNat (room5.fn pairs1).1.2) (room5.fn pairs1).1.1)).2.1).1 == (Make5.fn n0 pairs1).2.1) = Bool.true then some ((Make.fn n0 (List.take (Int.toNat (room5.fn pairs1).1.2) (room5.fn pairs1).1.1)).1, (Make5.fn n0 pairs1).1, Option.isNone (Make.fn n0 (List.take (Int.toNat (room5.fn pairs1).1.2) (room5.fn pairs1).1.1)).1 == Option.isNone (Make5.fn n0 pairs1).1, ())
 else some ((Make.fn n0 (List.take (Int.toNat (room5.fn pairs1).1.2) (room5.fn pairs1).1.1)).1, (Make5.fn n0 pairs1).1, Bool.false, ()))
 else none)
 else some ((Make.fn n0 (List.take (Int.toNat (room5.fn pairs1).1.2) (room5.fn pairs1).1.1)).1, (Make5.fn n0 pairs1).1, Bool.false, ()))
 else none)
 else none)
 else none)
 else none)
noncomputable def run (d : Ds (List.map PM.ty ps)) : Option (Ds (muts ps ++ List.map PM.ty rs)) := match d with
  | (n0, pairs1, _) => run' n0 pairs1
theorem run_is : ∀ d, runF env 46 code [4, 5, 6] ps rs d = run d := fun d => by kernel_rfl
theorem loops : LoopsOk env code := loopsOk_of (l := []) (by kernel_rfl) (fun p hp => by
  cases hp)
noncomputable def pre (n0 : Int) (pairs1 : (List (Int × Int))) : Bool := (run' n0 pairs1).isSome
noncomputable def fn (n0 : Int) (pairs1 : (List (Int × Int))) : D := match run' n0 pairs1 with
  | some x => x
  | none => default
noncomputable def sig : Sig := ⟨ps, rs, fun d => match d with
  | (n0, pairs1, _) => pre n0 pairs1, fun d => match d with
  | (n0, pairs1, _) => fn n0 pairs1, false⟩
theorem run_fn (n0 : Int) (pairs1 : (List (Int × Int))) (h : pre n0 pairs1 = true) : run' n0 pairs1 = some (fn n0 pairs1) := by
  unfold pre at h
  unfold fn
  cases e : run' n0 pairs1 with
  | some x => rfl
  | none => rw [e] at h; cases h
theorem is_fn (n0 : Int) (pairs1 : (List (Int × Int))) {x : D} (h : run' n0 pairs1 = some x) : pre n0 pairs1 = true ∧ fn n0 pairs1 = x := by
  unfold pre fn
  rw [h]
  exact ⟨rfl, rfl⟩
theorem sound {ρ : Obs} (hE : EnvOk Go.Proofs.Try.prog ρ env) : Sound Go.Proofs.Try.prog ρ 49 sig := sound_of (fn := Go.Proofs.Try.f49) (c := code) (res := [4, 5, 6]) hE (by kernel_rfl) (by kernel_rfl) (by kernel_rfl) (by kernel_rfl) (by kernel_rfl) loops rfl (show 2 ≤ 46 by decide) (fun d hd => (run_is d).trans (by
  obtain ⟨n0, pairs1, _⟩ := d
  exact run_fn n0 pairs1 hd))
theorem enters : Enters Go.Proofs.Try.prog 49 := enters_of (fn := Go.Proofs.Try.f49) (by kernel_rfl) (by kernel_rfl) (by kernel_rfl)
theorem ok {ρ : Obs} (h : ∀ p ∈ ([(111, room5.sig), (105, Make.sig), (112, Make5.sig), (113, still5.sig), (44, num5.sig)] : List (FuncId × Sig)), Enters Go.Proofs.Try.prog p.1 ∧ Sound Go.Proofs.Try.prog ρ p.1 p.2) : Enters Go.Proofs.Try.prog 49 ∧ Sound Go.Proofs.Try.prog ρ 49 sig := ⟨enters, sound (envOk_of tabOk h)⟩
theorem okR : Enters Go.Proofs.Try.prog 49 ∧ Sound Go.Proofs.Try.prog rho 49 sig := ok (fun p hp => by
  simp only [List.mem_cons, List.not_mem_nil, or_false] at hp
  rcases hp with rfl | rfl | rfl | rfl | rfl
  · exact room5.okR
  · exact Make.okR
  · exact Make5.okR
  · exact still5.okR
  · exact num5.okR)
end made5
/-! pith/pithref.SameLists -/
namespace SameLL
abbrev ps : List PM := [.val (.list (.pair I64 (.list I64))), .val (.list (.pair I64 (.list I64)))]
abbrev rs : List PM := [.val .bool]
noncomputable abbrev code : Code := (Go.Proofs.Try.f62.body.getD .skip)
abbrev s4 : Shape := ⟨[.v (.list (.pair I64 (.list I64))), .v (.list (.pair I64 (.list I64))), .un, .un, .un, .v I64, .un, .un, .un, .un, .un, .un, .un, .un, .un, .un, .un, .un, .un, .un, .un, .un, .un, .un, .un, .un, .un, .un, .un], []⟩
abbrev x4 : List Way := [⟨.rt, ⟨[(4, none)]⟩, ⟨[.un, .un, .un, .un, .v .bool, .un, .un, .un, .un, .un, .un, .un, .un, .un, .un, .un, .un, .un, .un, .un, .un, .un, .un, .un, .un, .un, .un, .un, .un], []⟩⟩, ⟨(.ex 0), ⟨[]⟩, ⟨[.un, .un, .un, .un, .un, .un, .un, .un, .un, .un, .un, .un, .un, .un, .un, .un, .un, .un, .un, .un, .un, .un, .un, .un, .un, .un, .un, .un, .un], []⟩⟩]
abbrev V4 : Type := ((List (Int × (List Int))) × (List (Int × (List Int))) × Int × Unit) × (Unit)
abbrev X4 : Type := ((Bool × Unit) × (Unit)) ⊕ ((Unit) × (Unit))
noncomputable def R4 {R : Type} (a0 : (List (Int × (List Int)))) (b1 : (List (Int × (List Int)))) (i5 : Int) (k : V4 → Option R) (kx : X4 → Option R) : Option R := (if Decidable.decide (i5 < (↑(List.length a0) : Int)) = Bool.true then (if (0 : Int) ≤ i5 then (if i5 < (↑(List.length a0) : Int) then (if (0 : Int) ≤ i5 then (if i5 < (↑(List.length b1) : Int) then (if SameL5.pre (List.getD a0 (Int.toNat i5) ((0 : Int), [])) (List.getD b1 (Int.toNat i5) ((0 : Int), [])) = Bool.true then (if (!(SameL5.fn (List.getD a0 (Int.toNat i5) ((0 : Int), [])) (List.getD b1 (Int.toNat i5) ((0 : Int), []))).1) = Bool.true then kx (Sum.inl <| ((Bool.false, ()), (())))
 else k ((a0, b1, IntKind.wrap .i64 (i5 + (1 : Int)), ()), (())))
 else none)
 else none)
 else none)
 else none)
 else none)
 else kx (Sum.inr <| ((()), (()))))
noncomputable def rd4 : Rd (VO s4) (Xs x4) := fun v k kx => match v with
  | ((a0, b1, i5, _), _) => R4 a0 b1 i5 k kx
noncomputable def F4 (a0 : (List (Int × (List Int)))) (b1 : (List (Int × (List Int)))) (i5 : Int) : Option X4 := finOf rd4 ((a0, b1, i5, ()), (()))
theorem F4_inv {a0 : (List (Int × (List Int)))} {b1 : (List (Int × (List Int)))} (I : Int → Prop) (μ : Int → Nat) (Q : X4 → Prop) (h : ∀ (i5 : Int), I i5 → Led (fun (R : Type) (k : V4 → Option R) (kx : X4 → Option R) => R4 a0 b1 i5 k kx) (fun v => ∃ (i5' : Int), v = ((a0, b1, i5', ()), ()) ∧ I i5' ∧ μ i5' < μ i5) Q) : ∀ (i5 : Int), I i5 → ∃ z, F4 a0 b1 i5 = some z ∧ Q z := fun i5 hi => by
  refine finOf_inv (V := V4) (X := X4) (rd := rd4) (fun v => ∃ (i5' : Int), v = ((a0, b1, i5', ()), ()) ∧ I i5') (fun v => match v with
    | ((a0, b1, i5, _), _) => μ i5) Q (fun v hv => ?_) ((a0, b1, i5, ()), ()) ⟨i5, rfl, hi⟩
  obtain ⟨i5, rfl, hi⟩ := hv
  refine led_mono (h i5 hi) ?_ (fun _ q => q)
  rintro v ⟨i5', rfl, h1, h2⟩
  exact ⟨⟨i5', rfl, h1⟩, h2⟩
noncomputable def L4 : Lp := ⟨4, ⟨[(0, none), (1, none), (5, none)]⟩, s4, x4, fun v => match v with
  | ((a0, b1, i5, _), _) => F4 a0 b1 i5⟩
theorem ends4 : Ends L4 rd4 := ends_fin (fun v => by
  obtain ⟨⟨a0, b1, i5, _⟩, ⟨_⟩⟩ := v
  rfl)
noncomputable def env : Env := mkEnv tab [(124, SameL5.sig)] 0 [(6, [0, 1, 2, 3, 4, 5, 6, 7, 8, 9])] [L4]
theorem round4 : RoundIs env (sub [true, true, false, true, false, false] code) L4 rd4 := fun R v k kx => by kernel_rfl
abbrev D : Type := (Bool × Unit)
noncomputable def run' (a0 : (List (Int × (List Int)))) (b1 : (List (Int × (List Int)))) : Option D := (if ((↑(List.length a0) : Int) != (↑(List.length b1) : Int)) = Bool.true then some (Bool.false, ())
 else (match F4 (a0) (b1) ((0 : Int)) with
  | some (Sum.inl <| ((t4_1, _), _)) => some (t4_1, ())
  | some (Sum.inr <| (_, _)) => some (Bool.true, ())
  | none => none))
noncomputable def run (d : Ds (List.map PM.ty ps)) : Option (Ds (muts ps ++ List.map PM.ty rs)) := match d with
  | (a0, b1, _) => run' a0 b1
theorem run_is : ∀ d, runF env 29 code [4] ps rs d = run d := fun d => by kernel_rfl
theorem loops : LoopsOk env code := loopsOk_of (l := [[true, true, false, true, false, false]]) (by kernel_rfl) (fun p hp => by
  simp only [List.mem_cons, List.not_mem_nil, or_false] at hp
  rcases hp with rfl
  · exact loopOk_lp (L := L4) (x := sub [true, true, false, true, false, false] code) (by kernel_rfl) (by simp [L4]) round4 ends4
  )
noncomputable def pre (a0 : (List (Int × (List Int)))) (b1 : (List (Int × (List Int)))) : Bool := (run' a0 b1).isSome
noncomputable def fn (a0 : (List (Int × (List Int)))) (b1 : (List (Int × (List Int)))) : D := match run' a0 b1 with
  | some x => x
  | none => default
noncomputable def sig : Sig := ⟨ps, rs, fun d => match d with
  | (a0, b1, _) => pre a0 b1, fun d => match d with
  | (a0, b1, _) => fn a0 b1, false⟩
theorem run_fn (a0 : (List (Int × (List Int)))) (b1 : (List (Int × (List Int)))) (h : pre a0 b1 = true) : run' a0 b1 = some (fn a0 b1) := by
  unfold pre at h
  unfold fn
  cases e : run' a0 b1 with
  | some x => rfl
  | none => rw [e] at h; cases h
theorem is_fn (a0 : (List (Int × (List Int)))) (b1 : (List (Int × (List Int)))) {x : D} (h : run' a0 b1 = some x) : pre a0 b1 = true ∧ fn a0 b1 = x := by
  unfold pre fn
  rw [h]
  exact ⟨rfl, rfl⟩
theorem sound {ρ : Obs} (hE : EnvOk Go.Proofs.Try.prog ρ env) : Sound Go.Proofs.Try.prog ρ 62 sig := sound_of (fn := Go.Proofs.Try.f62) (c := code) (res := [4]) hE (by kernel_rfl) (by kernel_rfl) (by kernel_rfl) (by kernel_rfl) (by kernel_rfl) loops rfl (show 2 ≤ 29 by decide) (fun d hd => (run_is d).trans (by
  obtain ⟨a0, b1, _⟩ := d
  exact run_fn a0 b1 hd))
theorem enters : Enters Go.Proofs.Try.prog 62 := enters_of (fn := Go.Proofs.Try.f62) (by kernel_rfl) (by kernel_rfl) (by kernel_rfl)
theorem ok {ρ : Obs} (h : ∀ p ∈ ([(124, SameL5.sig)] : List (FuncId × Sig)), Enters Go.Proofs.Try.prog p.1 ∧ Sound Go.Proofs.Try.prog ρ p.1 p.2) : Enters Go.Proofs.Try.prog 62 ∧ Sound Go.Proofs.Try.prog ρ 62 sig := ⟨enters, sound (envOk_of tabOk h)⟩
theorem okR : Enters Go.Proofs.Try.prog 62 ∧ Sound Go.Proofs.Try.prog rho 62 sig := ok (fun p hp => by
  simp only [List.mem_cons, List.not_mem_nil, or_false] at hp
  rcases hp with rfl
  · exact SameL5.okR)
end SameLL
/-! pith/pithlaw5.says -/
namespace says5
abbrev ps : List PM := [.val (.obj 0), .val (.ptr Rf)]
abbrev rs : List PM := [.val .bool]
noncomputable abbrev code : Code := (Go.Proofs.Try.f50.body.getD .skip)
abbrev s10 : Shape := ⟨[.v (.obj 0), .v (.ptr (.one (.list (.list I64)))), .un, .un, .un, .v I64, .un, .un, .un, .v I64, .un, .un, .un, .un, .un, .un, .un, .un, .un, .un, .un, .un, .un, .un, .un, .un, .un, .un, .un, .un, .un, .un, .un, .un, .un, .un, .un, .un, .un, .un, .un, .un, .un, .un, .un, .un, .un, .un, .un, .un, .un, .un, .un, .un, .un, .un, .un, .un, .un, .un, .un, .un, .un, .un, .un, .un, .un, .un, .un, .un, .un, .un, .un, .un, .un, .un, .un, .un, .un, .un, .un, .un, .un], []⟩
abbrev x10 : List Way := [⟨.rt, ⟨[(4, none)]⟩, ⟨[.un, .un, .un, .un, .v .bool, .un, .un, .un, .un, .un, .un, .un, .un, .un, .un, .un, .un, .un, .un, .un, .un, .un, .un, .un, .un, .un, .un, .un, .un, .un, .un, .un, .un, .un, .un, .un, .un, .un, .un, .un, .un, .un, .un, .un, .un, .un, .un, .un, .un, .un, .un, .un, .un, .un, .un, .un, .un, .un, .un, .un, .un, .un, .un, .un, .un, .un, .un, .un, .un, .un, .un, .un, .un, .un, .un, .un, .un, .un, .un, .un, .un, .un, .un], []⟩⟩, ⟨(.ex 0), ⟨[]⟩, ⟨[.un, .un, .un, .un, .un, .un, .un, .un, .un, .un, .un, .un, .un, .un, .un, .un, .un, .un, .un, .un, .un, .un, .un, .un, .un, .un, .un, .un, .un, .un, .un, .un, .un, .un, .un, .un, .un, .un, .un, .un, .un, .un, .un, .un, .un, .un, .un, .un, .un, .un, .un, .un, .un, .un, .un, .un, .un, .un, .un, .un, .un, .un, .un, .un, .un, .un, .un, .un, .un, .un, .un, .un, .un, .un, .un, .un, .un, .un, .un, .un, .un, .un, .un], []⟩⟩]
abbrev V10 : Type := ((Option Gr) × (Option (List (List Int))) × Int × Int × Unit) × (Unit)
abbrev X10 : Type := ((Bool × Unit) × (Unit)) ⊕ ((Unit) × (Unit))
noncomputable def R10 {R : Type} (g0 : (Option Gr)) (r1 : (Option (List (List Int)))) (n5 : Int) (v9 : Int) (k : V10 → Option R) (kx : X10 → Option R) : Option R := (if Decidable.decide (v9 ≤ n5) = Bool.true then (if Neighbours.pre g0 v9 = Bool.true then (if Nb5.pre r1 v9 = Bool.true then (if SameIntsH.pre (Neighbours.fn g0 v9).1 (Nb5.fn r1 v9).1 = Bool.true then (if (!(SameIntsH.fn (Neighbours.fn g0 v9).1 (Nb5.fn r1 v9).1).1) = Bool.false then (if Degree.pre g0 v9 = Bool.true then (if ((Degree.fn g0 v9).1 != (↑(List.length (Nb5.fn r1 v9).1) : Int)) = Bool.true then kx (Sum.inl <| ((Bool.false, ()), (())))
 else k ((g0, r1, n5, IntKind.wrap .i64 (v9 + (1 : Int)), ()), (())))
 else none)
 else kx (Sum.inl <| ((Bool.false, ()), (()))))
 else none)
 else none)
 else none)
 else kx (Sum.inr <| ((()), (()))))
noncomputable def rd10 : Rd (VO s10) (Xs x10) := fun v k kx => match v with
  | ((g0, r1, n5, v9, _), _) => R10 g0 r1 n5 v9 k kx
noncomputable def F10 (g0 : (Option Gr)) (r1 : (Option (List (List Int)))) (n5 : Int) (v9 : Int) : Option X10 := finOf rd10 ((g0, r1, n5, v9, ()), (()))
theorem F10_inv {g0 : (Option Gr)} {r1 : (Option (List (List Int)))} {n5 : Int} (I : Int → Prop) (μ : Int → Nat) (Q : X10 → Prop) (h : ∀ (v9 : Int), I v9 → Led (fun (R : Type) (k : V10 → Option R) (kx : X10 → Option R) => R10 g0 r1 n5 v9 k kx) (fun v => ∃ (v9' : Int), v = ((g0, r1, n5, v9', ()), ()) ∧ I v9' ∧ μ v9' < μ v9) Q) : ∀ (v9 : Int), I v9 → ∃ z, F10 g0 r1 n5 v9 = some z ∧ Q z := fun v9 hi => by
  refine finOf_inv (V := V10) (X := X10) (rd := rd10) (fun v => ∃ (v9' : Int), v = ((g0, r1, n5, v9', ()), ()) ∧ I v9') (fun v => match v with
    | ((g0, r1, n5, v9, _), _) => μ v9) Q (fun v hv => ?_) ((g0, r1, n5, v9, ()), ()) ⟨v9, rfl, hi⟩
  obtain ⟨v9, rfl, hi⟩ := hv
  refine led_mono (h v9 hi) ?_ (fun _ q => q)
  rintro v ⟨v9', rfl, h1, h2⟩
  exact ⟨⟨v9', rfl, h1⟩, h2⟩
noncomputable def L10 : Lp := ⟨10, ⟨[(0, none), (1, none), (5, none), (9, none)]⟩, s10, x10, fun v => match v with
  | ((g0, r1, n5, v9, _), _) => F10 g0 r1 n5 v9⟩
theorem ends10 : Ends L10 rd10 := ends_fin (fun v => by
  obtain ⟨⟨g0, r1, n5, v9, _⟩, ⟨_⟩⟩ := v
  rfl)
noncomputable def env : Env := mkEnv tab [(93, N.sig), (114, N5.sig), (45, Edges.sig), (115, Edges5.sig), (35, Pairs.sig), (116, Pairs5.sig), (60, SamePairs.sig), (47, Arcs.sig), (61, Arcs5.sig), (63, Lists.sig), (64, Lists5.sig), (62, SameLL.sig), (38, Neighbours.sig), (59, Nb5.sig), (53, SameIntsH.sig), (46, Degree.sig)] 0 [] [L10]
theorem round10 : RoundIs env (sub [true, true, true, true, true, true, true, false, true, false, false] code) L10 rd10 := fun R v k kx => by kernel_rfl
abbrev D : Type := (Bool × Unit)
noncomputable def run' (g0 : (Option Gr)) (r1 : (Option (List (List Int)))) : Option D := (if N5.pre r1 = Bool.true then (if Option.isNone g0 = Bool.false then (if N.pre g0 = Bool.true then (if ((N.fn g0).1 != (N5.fn r1).1) = Bool.false then (if Edges.pre g0 = Bool.true then (if Edges5.pre r1 = Bool.true then (if ((Edges.fn g0).1 != (Edges5.fn r1).1) = Bool.true then some (Bool.false, ())
 else (if Pairs.pre g0 = Bool.true then (if Pairs5.pre r1 = Bool.true then (if SamePairs.pre (Pairs.fn g0).1 (Pairs5.fn r1).1 = Bool.true then (if Arcs.pre g0 (0 : Int) (N5.fn r1).1 = Bool.true then (if Arcs5.pre r1 (0 : Int) (N5.fn r1).1 = Bool.true then (if SamePairs.pre (Arcs.fn g0 (0 : Int) (N5.fn r1).1).1 (Arcs5.fn r1 (0 : Int) (N5.fn r1).1).1 = Bool.true then (if Lists.pre g0 (0 : Int) (N5.fn r1).1 = Bool.true then (if Lists5.pre r1 (0 : Int) (N5.fn r1).1 = Bool.true then (if SameLL.pre (Lists.fn g0 (0 : Int) (N5.fn r1).1).1 (Lists5.fn r1 (0 : Int) (N5.fn r1).1).1 = Bool.true then (if (!(SamePairs.fn (Pairs.fn g0).1 (Pairs5.fn r1).1).1) = Bool.false then (if (!(SamePairs.fn (Arcs.fn g0 (0 : Int) (N5.fn r1).1).1 (Arcs5.fn r1 (0 : Int) (N5.fn r1).1).1).1) = Bool.false then (if (!(SameLL.fn (Lists.fn g0 (0 : Int) (N5.fn r1).1).1 (Lists5.fn r1 (0 : Int) (N5.fn r1).1).1).1) = Bool.true then some (Bool.false, ())
 else (match F10 (g0) (r1) ((N5.fn r1).1) ((-1 : Int)) with
  | some (Sum.inl <| ((t4_1, _), _)) => some (t4_1, ())
  | some (Sum.inr <| (_, _)) => some (Bool.true, ())
  | none => none))
 else some (Bool.false, ()))
 else some (Bool.false, ()))
 else none)
 else none)
 else none)
 else none)
 else none)
 else none)
 else none)
 else none)
 else none))
 else none)
 else none)
 else some (Bool.false, ()))
 else none)
 else some (Bool.false, ()))
 else none)
noncomputable def run (d : Ds (List.map PM.ty ps)) : Option (Ds (muts ps ++ List.map PM.ty rs)) := match d with
  | (g0, r1, _) => run' g0 r1
theorem run_is : ∀ d, runF env 83 code [4] ps rs d = run d := fun d => by kernel_rfl
theorem loops : LoopsOk env code := loopsOk_of (l := [[true, true, true, true, true, true, true, false, true, false, false]]) (by kernel_rfl) (fun p hp => by
  simp only [List.mem_cons, List.not_mem_nil, or_false] at hp
  rcases hp with rfl
  · exact loopOk_lp (L := L10) (x := sub [true, true, true, true, true, true, true, false, true, false, false] code) (by kernel_rfl) (by simp [L10]) round10 ends10
  )
noncomputable def pre (g0 : (Option Gr)) (r1 : (Option (List (List Int)))) : Bool := (run' g0 r1).isSome
noncomputable def fn (g0 : (Option Gr)) (r1 : (Option (List (List Int)))) : D := match run' g0 r1 with
  | some x => x
  | none => default
noncomputable def sig : Sig := ⟨ps, rs, fun d => match d with
  | (g0, r1, _) => pre g0 r1, fun d => match d with
  | (g0, r1, _) => fn g0 r1, false⟩
theorem run_fn (g0 : (Option Gr)) (r1 : (Option (List (List Int)))) (h : pre g0 r1 = true) : run' g0 r1 = some (fn g0 r1) := by
  unfold pre at h
  unfold fn
  cases e : run' g0 r1 with
  | some x => rfl
  | none => rw [e] at h; cases h
theorem is_fn (g0 : (Option Gr)) (r1 : (Option (List (List Int)))) {x : D} (h : run' g0 r1 = some x) : pre g0 r1 = true ∧ fn g0 r1 = x := by
  unfold pre fn
  rw [h]
  exact ⟨rfl, rfl⟩
theorem sound {ρ : Obs} (hE : EnvOk Go.Proofs.Try.prog ρ env) : Sound Go.Proofs.Try.prog ρ 50 sig := sound_of (fn := Go.Proofs.Try.f50) (c := code) (res := [4]) hE (by kernel_rfl) (by kernel_rfl) (by kernel_rfl) (by kernel_rfl) (by kernel_rfl) loops rfl (show 2 ≤ 83 by decide) (fun d hd => (run_is d).trans (by
  obtain ⟨g0, r1, _⟩ := d
  exact run_fn g0 r1 hd))
theorem enters : Enters Go.Proofs.Try.prog 50 := enters_of (fn := Go.Proofs.Try.f50) (by kernel_rfl) (by kernel_rfl) (by kernel_rfl)
theorem ok {ρ : Obs} (h : ∀ p ∈ ([(93, N.sig), (114, N5.sig), (45, Edges.sig), (115, Edges5.sig), (35, Pairs.sig), (116, Pairs5.sig), (60, SamePairs.sig), (47, Arcs.sig), (61, Arcs5.sig), (63, Lists.sig), (64, Lists5.sig), (62, SameLL.sig), (38, Neighbours.sig), (59, Nb5.sig), (53, SameIntsH.sig), (46, Degree.sig)] : List (FuncId × Sig)), Enters Go.Proofs.Try.prog p.1 ∧ Sound Go.Proofs.Try.prog ρ p.1 p.2) : Enters Go.Proofs.Try.prog 50 ∧ Sound Go.Proofs.Try.prog ρ 50 sig := ⟨enters, sound (envOk_of tabOk h)⟩
theorem okR : Enters Go.Proofs.Try.prog 50 ∧ Sound Go.Proofs.Try.prog rho 50 sig := ok (fun p hp => by
  simp only [List.mem_cons, List.not_mem_nil, or_false] at hp
  rcases hp with rfl | rfl | rfl | rfl | rfl | rfl | rfl | rfl | rfl | rfl | rfl | rfl | rfl | rfl | rfl | rfl
  · exact N.okR
  · exact N5.okR
  · exact Edges.okR
  · exact Edges5.okR
  · exact Pairs.okR
  · exact Pairs5.okR
  · exact SamePairs.okR
  · exact Arcs.okR
  · exact Arcs5.okR
  · exact Lists.okR
  · exact Lists5.okR
  · exact SameLL.okR
  · exact Neighbours.okR
  · exact Nb5.okR
  · exact SameIntsH.okR
  · exact Degree.okR)
end says5
/-! pith/pithlaw5.GraphMakes -/
namespace GraphMakes
abbrev ps : List PM := [.val I64, .val (.list Pr)]
abbrev rs : List PM := [.val .bool]
noncomputable abbrev code : Code := (Go.Proofs.Try.f9.body.getD .skip)
noncomputable def env : Env := mkEnv tab [(31, first5.sig), (48, few5.sig), (49, made5.sig), (50, says5.sig)] 0 [] []
abbrev D : Type := (Bool × Unit)
noncomputable def run' (n0 : Int) (pairs1 : (List (Int × Int))) : Option D := (if first5.pre = Bool.true then (if few5.pre n0 pairs1 = Bool.true then (if (!first5.fn.1) = Bool.false then (if (!(few5.fn n0 pairs1).1) = Bool.true then some (first5.fn.1, ())
 else (if made5.pre n0 pairs1 = Bool.true then (if Option.isNone (made5.fn n0 pairs1).1 = Bool.false then (if Option.isNone (made5.fn n0 pairs1).2.1 = Bool.false then (if (!(made5.fn n0 pairs1).2.2.1) = Bool.true then some ((made5.fn n0 pairs1).2.2.1, ())
 else (if says5.pre (made5.fn n0 pairs1).1 (made5.fn n0 pairs1).2.1 = Bool.true then some ((says5.fn (made5.fn n0 pairs1).1 (made5.fn n0 pairs1).2.1).1, ())
 else none))
 else some ((made5.fn n0 pairs1).2.2.1, ()))
 else some ((made5.fn n0 pairs1).2.2.1, ()))
 else none))
 else some (first5.fn.1, ()))
 else none)
 else none)
noncomputable def run (d : Ds (List.map PM.ty ps)) : Option (Ds (muts ps ++ List.map PM.ty rs)) := match d with
  | (n0, pairs1, _) => run' n0 pairs1
theorem run_is : ∀ d, runF env 42 code [4] ps rs d = run d := fun d => by kernel_rfl
theorem loops : LoopsOk env code := loopsOk_of (l := []) (by kernel_rfl) (fun p hp => by
  cases hp)
noncomputable def pre (n0 : Int) (pairs1 : (List (Int × Int))) : Bool := (run' n0 pairs1).isSome
noncomputable def fn (n0 : Int) (pairs1 : (List (Int × Int))) : D := match run' n0 pairs1 with
  | some x => x
  | none => default
noncomputable def sig : Sig := ⟨ps, rs, fun d => match d with
  | (n0, pairs1, _) => pre n0 pairs1, fun d => match d with
  | (n0, pairs1, _) => fn n0 pairs1, false⟩
theorem run_fn (n0 : Int) (pairs1 : (List (Int × Int))) (h : pre n0 pairs1 = true) : run' n0 pairs1 = some (fn n0 pairs1) := by
  unfold pre at h
  unfold fn
  cases e : run' n0 pairs1 with
  | some x => rfl
  | none => rw [e] at h; cases h
theorem is_fn (n0 : Int) (pairs1 : (List (Int × Int))) {x : D} (h : run' n0 pairs1 = some x) : pre n0 pairs1 = true ∧ fn n0 pairs1 = x := by
  unfold pre fn
  rw [h]
  exact ⟨rfl, rfl⟩
theorem sound {ρ : Obs} (hE : EnvOk Go.Proofs.Try.prog ρ env) : Sound Go.Proofs.Try.prog ρ 9 sig := sound_of (fn := Go.Proofs.Try.f9) (c := code) (res := [4]) hE (by kernel_rfl) (by kernel_rfl) (by kernel_rfl) (by kernel_rfl) (by kernel_rfl) loops rfl (show 2 ≤ 42 by decide) (fun d hd => (run_is d).trans (by
  obtain ⟨n0, pairs1, _⟩ := d
  exact run_fn n0 pairs1 hd))
theorem enters : Enters Go.Proofs.Try.prog 9 := enters_of (fn := Go.Proofs.Try.f9) (by kernel_rfl) (by kernel_rfl) (by kernel_rfl)
theorem ok {ρ : Obs} (h : ∀ p ∈ ([(31, first5.sig), (48, few5.sig), (49, made5.sig), (50, says5.sig)] : List (FuncId × Sig)), Enters Go.Proofs.Try.prog p.1 ∧ Sound Go.Proofs.Try.prog ρ p.1 p.2) : Enters Go.Proofs.Try.prog 9 ∧ Sound Go.Proofs.Try.prog ρ 9 sig := ⟨enters, sound (envOk_of tabOk h)⟩
theorem okR : Enters Go.Proofs.Try.prog 9 ∧ Sound Go.Proofs.Try.prog rho 9 sig := ok (fun p hp => by
  simp only [List.mem_cons, List.not_mem_nil, or_false] at hp
  rcases hp with rfl | rfl | rfl | rfl
  · exact first5.okR
  · exact few5.okR
  · exact made5.okR
  · exact says5.okR)
end GraphMakes
/-! pith/pithlaw5.GraphAsks -/
namespace GraphAsks
abbrev ps : List PM := [.val I64, .val (.list Pr), .val (.list I64)]
abbrev rs : List PM := [.val .bool]
noncomputable abbrev code : Code := (Go.Proofs.Try.f12.body.getD .skip)
abbrev s9 : Shape := ⟨[.un, .un, .v (.list I64), .un, .un, .un, .un, .un, .un, .v (.obj 0), .v (.ptr (.one (.list (.list I64)))), .un, .v I64, .un, .un, .un, .un, .un, .un, .un, .un, .un, .un, .un, .un, .un, .un, .un, .un, .un, .un, .un, .un, .un, .un, .un, .un, .un, .un, .un, .un, .un, .un, .un, .un, .un, .un, .un, .un, .un, .un, .un, .un, .un, .un, .un, .un, .un, .un, .un, .un, .un, .un, .un, .un, .un, .un, .un, .un, .un, .un, .un, .un, .un, .un, .un, .un, .un, .un, .un, .un, .un, .un, .un, .un, .un, .un, .un, .un, .un, .un, .un, .un, .un, .un, .un, .un, .un, .un, .un, .un, .un, .un, .un, .un, .un, .un, .un, .un, .un, .un, .un, .un, .un, .un, .un, .un, .un, .un, .un, .un, .un, .un, .un, .un], []⟩
abbrev x9 : List Way := [⟨.rt, ⟨[(6, none)]⟩, ⟨[.un, .un, .un, .un, .un, .un, .v .bool, .un, .un, .un, .un, .un, .un, .un, .un, .un, .un, .un, .un, .un, .un, .un, .un, .un, .un, .un, .un, .un, .un, .un, .un, .un, .un, .un, .un, .un, .un, .un, .un, .un, .un, .un, .un, .un, .un, .un, .un, .un, .un, .un, .un, .un, .un, .un, .un, .un, .un, .un, .un, .un, .un, .un, .un, .un, .un, .un, .un, .un, .un, .un, .un, .un, .un, .un, .un, .un, .un, .un, .un, .un, .un, .un, .un, .un, .un, .un, .un, .un, .un, .un, .un, .un, .un, .un, .un, .un, .un, .un, .un, .un, .un, .un, .un, .un, .un, .un, .un, .un, .un, .un, .un, .un, .un, .un, .un, .un, .un, .un, .un, .un, .un, .un, .un, .un, .un], []⟩⟩, ⟨(.ex 0), ⟨[]⟩, ⟨[.un, .un, .un, .un, .un, .un, .un, .un, .un, .un, .un, .un, .un, .un, .un, .un, .un, .un, .un, .un, .un, .un, .un, .un, .un, .un, .un, .un, .un, .un, .un, .un, .un, .un, .un, .un, .un, .un, .un, .un, .un, .un, .un, .un, .un, .un, .un, .un, .un, .un, .un, .un, .un, .un, .un, .un, .un, .un, .un, .un, .un, .un, .un, .un, .un, .un, .un, .un, .un, .un, .un, .un, .un, .un, .un, .un, .un, .un, .un, .un, .un, .un, .un, .un, .un, .un, .un, .un, .un, .un, .un, .un, .un, .un, .un, .un, .un, .un, .un, .un, .un, .un, .un, .un, .un, .un, .un, .un, .un, .un, .un, .un, .un, .un, .un, .un, .un, .un, .un, .un, .un, .un, .un, .un, .un], []⟩⟩]
abbrev V9 : Type := ((List Int) × (Option Gr) × (Option (List (List Int))) × Int × Unit) × (Unit)
abbrev X9 : Type := ((Bool × Unit) × (Unit)) ⊕ ((Unit) × (Unit))
noncomputable def R9 {R : Type} (l2 : (List Int)) (g9 : (Option Gr)) (r10 : (Option (List (List Int)))) (i12 : Int) (k : V9 → Option R) (kx : X9 → Option R) : Option R := (if Decidable.decide (i12 < (↑(List.length l2) : Int)) = Bool.true then (if Decidable.decide (i12 < (100 : Int)) = Bool.true then (if (0 : Int) ≤ i12 then (if i12 < (↑(List.length l2) : Int) then (if (0 : Int) ≤ IntKind.wrap .i64 (IntKind.wrap .i64 ((↑(List.length l2) : Int) - (1 : Int)) - i12) then (if IntKind.wrap .i64 (IntKind.wrap .i64 ((↑(List.length l2) : Int) - (1 : Int)) - i12) < (↑(List.length l2) : Int) then (if Neighbours.pre g9 (List.getD l2 (Int.toNat i12) (0 : Int)) = Bool.true then (if Nb5.pre r10 (List.getD l2 (Int.toNat i12) (0 : Int)) = Bool.true then (if SameIntsH.pre (Neighbours.fn g9 (List.getD l2 (Int.toNat i12) (0 : Int))).1 (Nb5.fn r10 (List.getD l2 (Int.toNat i12) (0 : Int))).1 = Bool.true then (if Arcs.pre g9 (List.getD l2 (Int.toNat i12) (0 : Int)) (List.getD l2 (Int.toNat (IntKind.wrap .i64 (IntKind.wrap .i64 ((↑(List.length l2) : Int) - (1 : Int)) - i12))) (0 : Int)) = Bool.true then (if Arcs5.pre r10 (List.getD l2 (Int.toNat i12) (0 : Int)) (List.getD l2 (Int.toNat (IntKind.wrap .i64 (IntKind.wrap .i64 ((↑(List.length l2) : Int) - (1 : Int)) - i12))) (0 : Int)) = Bool.true then (if SamePairs.pre (Arcs.fn g9 (List.getD l2 (Int.toNat i12) (0 : Int)) (List.getD l2 (Int.toNat (IntKind.wrap .i64 (IntKind.wrap .i64 ((↑(List.length l2) : Int) - (1 : Int)) - i12))) (0 : Int))).1 (Arcs5.fn r10 (List.getD l2 (Int.toNat i12) (0 : Int)) (List.getD l2 (Int.toNat (IntKind.wrap .i64 (IntKind.wrap .i64 ((↑(List.length l2) : Int) - (1 : Int)) - i12))) (0 : Int))).1 = Bool.true then (if Lists.pre g9 (List.getD l2 (Int.toNat i12) (0 : Int)) (List.getD l2 (Int.toNat (IntKind.wrap .i64 (IntKind.wrap .i64 ((↑(List.length l2) : Int) - (1 : Int)) - i12))) (0 : Int)) = Bool.true then (if Lists5.pre r10 (List.getD l2 (Int.toNat i12) (0 : Int)) (List.getD l2 (Int.toNat (IntKind.wrap .i64 (IntKind.wrap .i64 ((↑(List.length l2) : Int) - (1 : Int)) - i12))) (0 : Int)) = Bool.true then (if SameLL.pre (Lists.fn g9 (List.getD l2 (Int.toNat i12) (0 : Int)) (List.getD l2 (Int.toNat (IntKind.wrap .i64 (IntKind.wrap .i64 ((↑(List.length l2) : Int) - (1 : Int)) - i12))) (0 : Int))).1 (Lists5.fn r10 (List.getD l2 (Int.toNat i12) (0 : Int)) (List.getD l2 (Int.toNat (IntKind.wrap .i64 (IntKind.wrap .i64 ((↑(List.length l2) : Int) - (1 : Int)) - i12))) (0 : Int))).1 = Bool.true then (if (!(SameIntsH.fn (Neighbours.fn g9 (List.getD l2 (Int.toNat i12) (0 : Int))).1 (Nb5.fn r10 (List.getD l2 (Int.toNat i12) (0 : Int))).1).1) = Bool.false then (if (!(SamePairs.fn (Arcs.fn g9 (List.getD l2 (Int.toNat i12) (0 : Int)) (List.getD l2 (Int.toNat (IntKind.wrap .i64 (IntKind.wrap .i64 ((↑(List.length l2) : Int) - (1 : Int)) - i12))) (0 : Int))).1 (Arcs5.fn r10 (List.getD l2 (Int.toNat i12) (0 : Int)) (List.getD l2 (Int.toNat (IntKind.wrap .i64 (IntKind.wrap .i64 ((↑(List.length l2) : Int) - (1 : Int)) - i12))) (0 : Int))).1).1) = Bool.false then (if (!(SameLL.fn (Lists.fn g9 (List.getD l2 (Int.toNat i12) (0 : Int)) (List.getD l2 (Int.toNat (IntKind.wrap .i64 (IntKind.wrap .i64 ((↑(List.length l2) : Int) - (1 : Int)) - i12))) (0 : Int))).1 (Lists5.fn r10 (List.getD l2 (Int.toNat i12) (0 : Int)) (List.getD l2 (Int.toNat (IntKind.wrap .i64 (IntKind.wrap .i64 ((↑(List.length l2) : Int) - (1 : Int)) - i12))) (0 : Int))).1).1) = Bool.false then (if Has.pre g9 (List.getD l2 (Int.toNat i12) (0 : Int)) (List.getD l2 (Int.toNat (IntKind.wrap .i64 (IntKind.wrap .i64 ((↑(List.length l2) : Int) - (1 : Int)) - i12))) (0 : Int)) = Bool.true then (if Has5.pre r10 (List.getD l2 (Int.toNat i12) (0 : Int)) (List.getD l2 (Int.toNat (IntKind.wrap .i64 (IntKind.wrap .i64 ((↑(List.length l2) : Int) - (1 : Int)) - i12))) (0 : Int)) = Bool.true then (if (!(Has.fn g9 (List.getD l2 (Int.toNat i12) (0 : Int)) (List.getD l2 (Int.toNat (IntKind.wrap .i64 (IntKind.wrap .i64 ((↑(List.length l2) : Int) - (1 : Int)) - i12))) (0 : Int))).1 == (Has5.fn r10 (List.getD l2 (Int.toNat i12) (0 : Int)) (List.getD l2 (Int.toNat (IntKind.wrap .i64 (IntKind.wrap .i64 ((↑(List.length l2) : Int) - (1 : Int)) - i12))) (0 : Int))).1) = Bool.false then (if Degree.pre g9 (List.getD l2 (Int.toNat i12) (0 : Int)) = Bool.true then (if Nb5.pre r10 (List.getD l2 (Int.toNat i12) (0 : Int)) = Bool.true then (if ((Degree.fn g9 (List.getD l2 (Int.toNat i12) (0 : Int))).1 != (↑(List.length (Nb5.fn r10 (List.getD l2 (Int.toNat i12) (0 : Int))).1) : Int)) = Bool.true then kx (Sum.inl <| ((Bool.false, ()), (())))
 else k ((l2, g9, r10, IntKind.wrap .i64 (i12 + (1 : Int)), ()), (())))
 else none)
 else none)
 else kx (Sum.inl <| ((Bool.false, ()), (()))))
 else none)
 else none)
 else kx (Sum.inl <| ((Bool.false, ()), (()))))
 else kx (Sum.inl <| ((Bool.false, ()), (()))))
 else kx (Sum.inl <| ((Bool.false, ()), (()))))
 else none)
 else none)
 else none)
 else none)
 else none)
 else none)
 else none)
 else none)
 else none)
 else none)
 else none)
 else none)
 else none)
 else kx (Sum.inr <| ((()), (()))))
 else kx (Sum.inr <| ((()), (()))))
noncomputable def rd9 : Rd (VO s9) (Xs x9) := fun v k kx => match v with
  | ((l2, g9, r10, i12, _), _) => R9 l2 g9 r10 i12 k kx
noncomputable def F9 (l2 : (List Int)) (g9 : (Option Gr)) (r10 : (Option (List (List Int)))) (i12 : Int) : Option X9 := finOf rd9 ((l2, g9, r10, i12, ()), (()))
theorem F9_inv {l2 : (List Int)} {g9 : (Option Gr)} {r10 : (Option (List (List Int)))} (I : Int → Prop) (μ : Int → Nat) (Q : X9 → Prop) (h : ∀ (i12 : Int), I i12 → Led (fun (R : Type) (k : V9 → Option R) (kx : X9 → Option R) => R9 l2 g9 r10 i12 k kx) (fun v => ∃ (i12' : Int), v = ((l2, g9, r10, i12', ()), ()) ∧ I i12' ∧ μ i12' < μ i12) Q) : ∀ (i12 : Int), I i12 → ∃ z, F9 l2 g9 r10 i12 = some z ∧ Q z := fun i12 hi => by
  refine finOf_inv (V := V9) (X := X9) (rd := rd9) (fun v => ∃ (i12' : Int), v = ((l2, g9, r10, i12', ()), ()) ∧ I i12') (fun v => match v with
    | ((l2, g9, r10, i12, _), _) => μ i12) Q (fun v hv => ?_) ((l2, g9, r10, i12, ()), ()) ⟨i12, rfl, hi⟩
  obtain ⟨i12, rfl, hi⟩ := hv
  refine led_mono (h i12 hi) ?_ (fun _ q => q)
  rintro v ⟨i12', rfl, h1, h2⟩
  exact ⟨⟨i12', rfl, h1⟩, h2⟩
noncomputable def L9 : Lp := ⟨9, ⟨[(2, none), (9, none), (10, none), (12, none)]⟩, s9, x9, fun v => match v with
  | ((l2, g9, r10, i12, _), _) => F9 l2 g9 r10 i12⟩
theorem ends9 : Ends L9 rd9 := ends_fin (fun v => by
  obtain ⟨⟨l2, g9, r10, i12, _⟩, ⟨_⟩⟩ := v
  rfl)
noncomputable def env : Env := mkEnv tab [(31, first5.sig), (48, few5.sig), (49, made5.sig), (38, Neighbours.sig), (59, Nb5.sig), (53, SameIntsH.sig), (47, Arcs.sig), (61, Arcs5.sig), (60, SamePairs.sig), (63, Lists.sig), (64, Lists5.sig), (62, SameLL.sig), (41, Has.sig), (65, Has5.sig), (46, Degree.sig)] 0 [] [L9]
theorem round9 : RoundIs env (sub [true, true, true, true, true, true, false, true, false, false] code) L9 rd9 := fun R v k kx => by kernel_rfl
abbrev D : Type := (Bool × Unit)
noncomputable def run' (n0 : Int) (pairs1 : (List (Int × Int))) (l2 : (List Int)) : Option D := (if first5.pre = Bool.true then (if few5.pre n0 pairs1 = Bool.true then (if (!first5.fn.1) = Bool.false then (if (!(few5.fn n0 pairs1).1) = Bool.true then some (first5.fn.1, ())
 else (if made5.pre n0 pairs1 = Bool.true then (if Option.isNone (made5.fn n0 pairs1).1 = Bool.false then (if Option.isNone (made5.fn n0 pairs1).2.1 = Bool.false then (if (!(made5.fn n0 pairs1).2.2.1) = Bool.true then some ((made5.fn n0 pairs1).2.2.1, ())
 else (match F9 (l2) ((made5.fn n0 pairs1).1) ((made5.fn n0 pairs1).2.1) ((0 : Int)) with
  | some (Sum.inl <| ((t6_1, _), _)) => some (t6_1, ())
  | some (Sum.inr <| (_, _)) => some (Bool.true, ())
  | none => none))
 else some ((made5.fn n0 pairs1).2.2.1, ()))
 else some ((made5.fn n0 pairs1).2.2.1, ()))
 else none))
 else some (first5.fn.1, ()))
 else none)
 else none)
noncomputable def run (d : Ds (List.map PM.ty ps)) : Option (Ds (muts ps ++ List.map PM.ty rs)) := match d with
  | (n0, pairs1, l2, _) => run' n0 pairs1 l2
theorem run_is : ∀ d, runF env 125 code [6] ps rs d = run d := fun d => by kernel_rfl
theorem loops : LoopsOk env code := loopsOk_of (l := [[true, true, true, true, true, true, false, true, false, false]]) (by kernel_rfl) (fun p hp => by
  simp only [List.mem_cons, List.not_mem_nil, or_false] at hp
  rcases hp with rfl
  · exact loopOk_lp (L := L9) (x := sub [true, true, true, true, true, true, false, true, false, false] code) (by kernel_rfl) (by simp [L9]) round9 ends9
  )
noncomputable def pre (n0 : Int) (pairs1 : (List (Int × Int))) (l2 : (List Int)) : Bool := (run' n0 pairs1 l2).isSome
noncomputable def fn (n0 : Int) (pairs1 : (List (Int × Int))) (l2 : (List Int)) : D := match run' n0 pairs1 l2 with
  | some x => x
  | none => default
noncomputable def sig : Sig := ⟨ps, rs, fun d => match d with
  | (n0, pairs1, l2, _) => pre n0 pairs1 l2, fun d => match d with
  | (n0, pairs1, l2, _) => fn n0 pairs1 l2, false⟩
theorem run_fn (n0 : Int) (pairs1 : (List (Int × Int))) (l2 : (List Int)) (h : pre n0 pairs1 l2 = true) : run' n0 pairs1 l2 = some (fn n0 pairs1 l2) := by
  unfold pre at h
  unfold fn
  cases e : run' n0 pairs1 l2 with
  | some x => rfl
  | none => rw [e] at h; cases h
theorem is_fn (n0 : Int) (pairs1 : (List (Int × Int))) (l2 : (List Int)) {x : D} (h : run' n0 pairs1 l2 = some x) : pre n0 pairs1 l2 = true ∧ fn n0 pairs1 l2 = x := by
  unfold pre fn
  rw [h]
  exact ⟨rfl, rfl⟩
theorem sound {ρ : Obs} (hE : EnvOk Go.Proofs.Try.prog ρ env) : Sound Go.Proofs.Try.prog ρ 12 sig := sound_of (fn := Go.Proofs.Try.f12) (c := code) (res := [6]) hE (by kernel_rfl) (by kernel_rfl) (by kernel_rfl) (by kernel_rfl) (by kernel_rfl) loops rfl (show 3 ≤ 125 by decide) (fun d hd => (run_is d).trans (by
  obtain ⟨n0, pairs1, l2, _⟩ := d
  exact run_fn n0 pairs1 l2 hd))
theorem enters : Enters Go.Proofs.Try.prog 12 := enters_of (fn := Go.Proofs.Try.f12) (by kernel_rfl) (by kernel_rfl) (by kernel_rfl)
theorem ok {ρ : Obs} (h : ∀ p ∈ ([(31, first5.sig), (48, few5.sig), (49, made5.sig), (38, Neighbours.sig), (59, Nb5.sig), (53, SameIntsH.sig), (47, Arcs.sig), (61, Arcs5.sig), (60, SamePairs.sig), (63, Lists.sig), (64, Lists5.sig), (62, SameLL.sig), (41, Has.sig), (65, Has5.sig), (46, Degree.sig)] : List (FuncId × Sig)), Enters Go.Proofs.Try.prog p.1 ∧ Sound Go.Proofs.Try.prog ρ p.1 p.2) : Enters Go.Proofs.Try.prog 12 ∧ Sound Go.Proofs.Try.prog ρ 12 sig := ⟨enters, sound (envOk_of tabOk h)⟩
theorem okR : Enters Go.Proofs.Try.prog 12 ∧ Sound Go.Proofs.Try.prog rho 12 sig := ok (fun p hp => by
  simp only [List.mem_cons, List.not_mem_nil, or_false] at hp
  rcases hp with rfl | rfl | rfl | rfl | rfl | rfl | rfl | rfl | rfl | rfl | rfl | rfl | rfl | rfl | rfl
  · exact first5.okR
  · exact few5.okR
  · exact made5.okR
  · exact Neighbours.okR
  · exact Nb5.okR
  · exact SameIntsH.okR
  · exact Arcs.okR
  · exact Arcs5.okR
  · exact SamePairs.okR
  · exact Lists.okR
  · exact Lists5.okR
  · exact SameLL.okR
  · exact Has.okR
  · exact Has5.okR
  · exact Degree.okR)
end GraphAsks
/-! pith/pithref.Changes -/
namespace ChangesO
abbrev ps : List PM := [.val (.list (.pair I64 (.pair I64 .bool)))]
abbrev rs : List PM := [.own 46 (.pair I64 (.pair I64 .bool))]
noncomputable abbrev code : Code := (Go.Proofs.Try.f56.body.getD .skip)
abbrev s3 : Shape := ⟨[.v (.list (.pair I64 (.pair I64 .bool))), .un, .un, .row 0, .v I64, .un, .un, .un, .un, .un, .un, .un, .un, .un, .un, .un, .un, .un, .un, .un, .un, .un], [.row (46 : Go.TypeId) (.pair I64 (.pair I64 .bool))]⟩
abbrev x3 : List Way := [⟨(.ex 0), ⟨[(3, none)]⟩, ⟨[.un, .un, .un, .row 0, .un, .un, .un, .un, .un, .un, .un, .un, .un, .un, .un, .un, .un, .un, .un, .un, .un, .un], [.row (46 : Go.TypeId) (.pair I64 (.pair I64 .bool))]⟩⟩]
abbrev V3 : Type := ((List (Int × (Int × Bool))) × Int × Unit) × ((List (Int × (Int × Bool))) × Unit)
abbrev X3 : Type := (Unit) × ((List (Int × (Int × Bool))) × Unit)
noncomputable def R3 {R : Type} (l0 : (List (Int × (Int × Bool)))) (i4 : Int) (r0 : List (Int × (Int × Bool))) (k : V3 → Option R) (kx : X3 → Option R) : Option R := (if Decidable.decide (i4 < (↑(List.length l0) : Int)) = Bool.true then (if (0 : Int) ≤ i4 then (if i4 < (↑(List.length l0) : Int) then (if (List.length r0 + List.length [List.getD l0 (Int.toNat i4) ((0 : Int), (0 : Int), Bool.false)]) * (24 : Nat) ≤ (140737488355328 : Nat) then k ((l0, IntKind.wrap .i64 (i4 + (1 : Int)), ()), (r0 ++ [List.getD l0 (Int.toNat i4) ((0 : Int), (0 : Int), Bool.false)], ()))
 else none)
 else none)
 else none)
 else kx (((()), (r0, ()))))
noncomputable def rd3 : Rd (VO s3) (Xs x3) := fun v k kx => match v with
  | ((l0, i4, _), (r0, _)) => R3 l0 i4 r0 k kx
noncomputable def F3 (l0 : (List (Int × (Int × Bool)))) (i4 : Int) (r0 : List (Int × (Int × Bool))) : Option X3 := finOf rd3 ((l0, i4, ()), (r0, ()))
theorem F3_inv {l0 : (List (Int × (Int × Bool)))} (I : Int → List (Int × (Int × Bool)) → Prop) (μ : Int → List (Int × (Int × Bool)) → Nat) (Q : X3 → Prop) (h : ∀ (i4 : Int) (r0 : List (Int × (Int × Bool))), I i4 r0 → Led (fun (R : Type) (k : V3 → Option R) (kx : X3 → Option R) => R3 l0 i4 r0 k kx) (fun v => ∃ (i4' : Int) (r0' : List (Int × (Int × Bool))), v = ((l0, i4', ()), (r0', ())) ∧ I i4' r0' ∧ μ i4' r0' < μ i4 r0) Q) : ∀ (i4 : Int) (r0 : List (Int × (Int × Bool))), I i4 r0 → ∃ z, F3 l0 i4 r0 = some z ∧ Q z := fun i4 r0 hi => by
  refine finOf_inv (V := V3) (X := X3) (rd := rd3) (fun v => ∃ (i4' : Int) (r0' : List (Int × (Int × Bool))), v = ((l0, i4', ()), (r0', ())) ∧ I i4' r0') (fun v => match v with
    | ((l0, i4, _), (r0, _)) => μ i4 r0) Q (fun v hv => ?_) ((l0, i4, ()), (r0, ())) ⟨i4, r0, rfl, hi⟩
  obtain ⟨i4, r0, rfl, hi⟩ := hv
  refine led_mono (h i4 r0 hi) ?_ (fun _ q => q)
  rintro v ⟨i4', r0', rfl, h1, h2⟩
  exact ⟨⟨i4', r0', rfl, h1⟩, h2⟩
noncomputable def L3 : Lp := ⟨3, ⟨[(0, none), (3, none), (4, none)]⟩, s3, x3, fun v => match v with
  | ((l0, i4, _), (r0, _)) => F3 l0 i4 r0⟩
theorem ends3 : Ends L3 rd3 := ends_fin (fun v => by
  obtain ⟨⟨l0, i4, _⟩, ⟨r0, _⟩⟩ := v
  rfl)
noncomputable def env : Env := mkEnv tab [] 0 [] [L3]
theorem round3 : RoundIs env (sub [true, true, false, true, false, false] code) L3 rd3 := fun R v k kx => by kernel_rfl
abbrev D : Type := ((List (Int × (Int × Bool))) × Unit)
noncomputable def run' (l0 : (List (Int × (Int × Bool)))) : Option D := (if Int.toNat (↑(List.length l0) : Int) * (24 : Nat) ≤ (140737488355328 : Nat) then (match F3 (l0) ((0 : Int)) ([]) with
  | some ((_, (r0_1, _))) => some (r0_1, ())
  | none => none)
 else none)
noncomputable def run (d : Ds (List.map PM.ty ps)) : Option (Ds (muts ps ++ List.map PM.ty rs)) := match d with
  | (l0, _) => run' l0
theorem run_is : ∀ d, runF env 22 code [2] ps rs d = run d := fun d => by kernel_rfl
theorem loops : LoopsOk env code := loopsOk_of (l := [[true, true, false, true, false, false]]) (by kernel_rfl) (fun p hp => by
  simp only [List.mem_cons, List.not_mem_nil, or_false] at hp
  rcases hp with rfl
  · exact loopOk_lp (L := L3) (x := sub [true, true, false, true, false, false] code) (by kernel_rfl) (by simp [L3]) round3 ends3
  )
noncomputable def pre (l0 : (List (Int × (Int × Bool)))) : Bool := (run' l0).isSome
noncomputable def fn (l0 : (List (Int × (Int × Bool)))) : D := match run' l0 with
  | some x => x
  | none => default
noncomputable def sig : Sig := ⟨ps, rs, fun d => match d with
  | (l0, _) => pre l0, fun d => match d with
  | (l0, _) => fn l0, false⟩
theorem run_fn (l0 : (List (Int × (Int × Bool)))) (h : pre l0 = true) : run' l0 = some (fn l0) := by
  unfold pre at h
  unfold fn
  cases e : run' l0 with
  | some x => rfl
  | none => rw [e] at h; cases h
theorem is_fn (l0 : (List (Int × (Int × Bool)))) {x : D} (h : run' l0 = some x) : pre l0 = true ∧ fn l0 = x := by
  unfold pre fn
  rw [h]
  exact ⟨rfl, rfl⟩
theorem sound {ρ : Obs} (hE : EnvOk Go.Proofs.Try.prog ρ env) : Sound Go.Proofs.Try.prog ρ 56 sig := sound_of (fn := Go.Proofs.Try.f56) (c := code) (res := [2]) hE (by kernel_rfl) (by kernel_rfl) (by kernel_rfl) (by kernel_rfl) (by kernel_rfl) loops rfl (show 1 ≤ 22 by decide) (fun d hd => (run_is d).trans (by
  obtain ⟨l0, _⟩ := d
  exact run_fn l0 hd))
theorem enters : Enters Go.Proofs.Try.prog 56 := enters_of (fn := Go.Proofs.Try.f56) (by kernel_rfl) (by kernel_rfl) (by kernel_rfl)
theorem ok {ρ : Obs} (h : ∀ p ∈ ([] : List (FuncId × Sig)), Enters Go.Proofs.Try.prog p.1 ∧ Sound Go.Proofs.Try.prog ρ p.1 p.2) : Enters Go.Proofs.Try.prog 56 ∧ Sound Go.Proofs.Try.prog ρ 56 sig := ⟨enters, sound (envOk_of tabOk h)⟩
theorem okR : Enters Go.Proofs.Try.prog 56 ∧ Sound Go.Proofs.Try.prog rho 56 sig := ok (fun p hp => by
  cases hp)
end ChangesO
/-! pith/pithlaw5.GraphChanged -/
namespace GraphChanged
abbrev ps : List PM := [.val I64, .val (.list Pr), .val (.list (.pair I64 (.pair I64 .bool)))]
abbrev rs : List PM := [.val .bool]
noncomputable abbrev code : Code := (Go.Proofs.Try.f11.body.getD .skip)
abbrev s15 : Shape := ⟨[.un, .un, .un, .un, .un, .un, .un, .un, .un, .v (.obj 0), .v (.ptr (.one (.list (.list I64)))), .un, .row 0, .v (.obj 0), .un, .v (.ptr (.one (.list (.list I64)))), .un, .un, .v I64, .un, .un, .un, .un, .un, .un, .un, .un, .un, .un, .un, .un, .un, .un, .un, .un, .un, .un, .un, .un, .un, .un, .un, .un, .un, .un, .un, .un, .un, .un, .un, .un, .un, .un, .un, .un, .un, .un, .un, .un, .un, .un, .un, .un, .un, .un, .un, .un, .un, .un, .un, .un, .un, .un, .un, .un, .un, .un, .un, .un, .un, .un, .un, .un, .un, .un, .un, .un, .un, .un, .un, .un, .un, .un, .un, .un, .un, .un, .un, .un, .un, .un, .un, .un, .un, .un, .un, .un, .un, .un, .un, .un, .un, .un, .un, .un, .un, .un, .un, .un, .un, .un, .un, .un, .un, .un, .un, .un, .un, .un, .un, .un], [.row (46 : Go.TypeId) (.pair I64 (.pair I64 .bool))]⟩
abbrev x15 : List Way := [⟨(.ex 0), ⟨[(9, none), (10, none), (13, none), (15, none)]⟩, ⟨[.un, .un, .un, .un, .un, .un, .un, .un, .un, .v (.obj 0), .v (.ptr (.one (.list (.list I64)))), .un, .un, .v (.obj 0), .un, .v (.ptr (.one (.list (.list I64)))), .un, .un, .un, .un, .un, .un, .un, .un, .un, .un, .un, .un, .un, .un, .un, .un, .un, .un, .un, .un, .un, .un, .un, .un, .un, .un, .un, .un, .un, .un, .un, .un, .un, .un, .un, .un, .un, .un, .un, .un, .un, .un, .un, .un, .un, .un, .un, .un, .un, .un, .un, .un, .un, .un, .un, .un, .un, .un, .un, .un, .un, .un, .un, .un, .un, .un, .un, .un, .un, .un, .un, .un, .un, .un, .un, .un, .un, .un, .un, .un, .un, .un, .un, .un, .un, .un, .un, .un, .un, .un, .un, .un, .un, .un, .un, .un, .un, .un, .un, .un, .un, .un, .un, .un, .un, .un, .un, .un, .un, .un, .un, .un, .un, .un, .un], []⟩⟩]
abbrev V15 : Type := ((Option Gr) × (Option (List (List Int))) × (Option Gr) × (Option (List (List Int))) × Int × Unit) × ((List (Int × (Int × Bool))) × Unit)
abbrev X15 : Type := ((Option Gr) × (Option (List (List Int))) × (Option Gr) × (Option (List (List Int))) × Unit) × (Unit)
noncomputable def R15 {R : Type} (g9 : (Option Gr)) (r10 : (Option (List (List Int)))) (h13 : (Option Gr)) (s15 : (Option (List (List Int)))) (i18 : Int) (r0 : List (Int × (Int × Bool))) (k : V15 → Option R) (kx : X15 → Option R) : Option R := (if Decidable.decide (i18 < (↑(List.length r0) : Int)) = Bool.true then (if (0 : Int) ≤ i18 then (if i18 < (↑(List.length r0) : Int) then (if Int.toNat i18 < List.length r0 then k ((g9, r10, h13, s15, IntKind.wrap .i64 (i18 + (1 : Int)), ()), (List.set r0 (Int.toNat i18) ((0 : Int), (0 : Int), Bool.true), ()))
 else none)
 else none)
 else none)
 else kx (((g9, r10, h13, s15, ()), (()))))
noncomputable def rd15 : Rd (VO s15) (Xs x15) := fun v k kx => match v with
  | ((g9, r10, h13, s15, i18, _), (r0, _)) => R15 g9 r10 h13 s15 i18 r0 k kx
noncomputable def F15 (g9 : (Option Gr)) (r10 : (Option (List (List Int)))) (h13 : (Option Gr)) (s15 : (Option (List (List Int)))) (i18 : Int) (r0 : List (Int × (Int × Bool))) : Option X15 := finOf rd15 ((g9, r10, h13, s15, i18, ()), (r0, ()))
theorem F15_inv {g9 : (Option Gr)} {r10 : (Option (List (List Int)))} {h13 : (Option Gr)} {s15 : (Option (List (List Int)))} (I : Int → List (Int × (Int × Bool)) → Prop) (μ : Int → List (Int × (Int × Bool)) → Nat) (Q : X15 → Prop) (h : ∀ (i18 : Int) (r0 : List (Int × (Int × Bool))), I i18 r0 → Led (fun (R : Type) (k : V15 → Option R) (kx : X15 → Option R) => R15 g9 r10 h13 s15 i18 r0 k kx) (fun v => ∃ (i18' : Int) (r0' : List (Int × (Int × Bool))), v = ((g9, r10, h13, s15, i18', ()), (r0', ())) ∧ I i18' r0' ∧ μ i18' r0' < μ i18 r0) Q) : ∀ (i18 : Int) (r0 : List (Int × (Int × Bool))), I i18 r0 → ∃ z, F15 g9 r10 h13 s15 i18 r0 = some z ∧ Q z := fun i18 r0 hi => by
  refine finOf_inv (V := V15) (X := X15) (rd := rd15) (fun v => ∃ (i18' : Int) (r0' : List (Int × (Int × Bool))), v = ((g9, r10, h13, s15, i18', ()), (r0', ())) ∧ I i18' r0') (fun v => match v with
    | ((g9, r10, h13, s15, i18, _), (r0, _)) => μ i18 r0) Q (fun v hv => ?_) ((g9, r10, h13, s15, i18, ()), (r0, ())) ⟨i18, r0, rfl, hi⟩
  obtain ⟨i18, r0, rfl, hi⟩ := hv
  refine led_mono (h i18 r0 hi) ?_ (fun _ q => q)
  rintro v ⟨i18', r0', rfl, h1, h2⟩
  exact ⟨⟨i18', r0', rfl, h1⟩, h2⟩
noncomputable def L15 : Lp := ⟨15, ⟨[(9, none), (10, none), (12, none), (13, none), (15, none), (18, none)]⟩, s15, x15, fun v => match v with
  | ((g9, r10, h13, s15, i18, _), (r0, _)) => F15 g9 r10 h13 s15 i18 r0⟩
theorem ends15 : Ends L15 rd15 := ends_fin (fun v => by
  obtain ⟨⟨g9, r10, h13, s15, i18, _⟩, ⟨r0, _⟩⟩ := v
  rfl)
noncomputable def env : Env := mkEnv tab [(31, first5.sig), (48, few5.sig), (49, made5.sig), (56, ChangesO.sig), (43, Changed.sig), (57, Chg5.sig), (58, SameChanges.sig), (44, num5.sig), (50, says5.sig)] 0 [] [L15]
theorem round15 : RoundIs env (sub [true, true, true, true, true, true, true, true, true, true, true, false, true, false, false] code) L15 rd15 := fun R v k kx => by kernel_rfl
abbrev D : Type := (Bool × Unit)
noncomputable def run' (n0 : Int) (pairs1 : (List (Int × Int))) (l2 : (List (Int × (Int × Bool)))) : Option D := (if first5.pre = Bool.true then (if few5.pre n0 pairs1 = Bool.true then (if (!first5.fn.1) = Bool.false then (if (!(few5.fn n0 pairs1).1) = Bool.false then (if Decidable.decide ((↑(List.length l2) : Int) > (20000 : Int)) = Bool.true then some (first5.fn.1, ())
 else (if made5.pre n0 pairs1 = Bool.true then (if Option.isNone (made5.fn n0 pairs1).1 = Bool.false then (if Option.isNone (made5.fn n0 pairs1).2.1 = Bool.false then (if (!(made5.fn n0 pairs1).2.2.1) = Bool.true then some ((made5.fn n0 pairs1).2.2.1, ())
 else (if ChangesO.pre l2 = Bool.true then (if (List.length (ChangesO.fn l2).1 + List.length [((201 : Int), (0 : Int), Bool.false)]) * (24 : Nat) ≤ (140737488355328 : Nat) then (if (↑(List.length l2) : Int) ≤ (↑(List.length ((ChangesO.fn l2).1 ++ [((201 : Int), (0 : Int), Bool.false)])) : Int) then (if Changed.pre (made5.fn n0 pairs1).1 (List.take (Int.toNat (↑(List.length l2) : Int)) ((ChangesO.fn l2).1 ++ [((201 : Int), (0 : Int), Bool.false)])) = Bool.true then (if Chg5.pre (made5.fn n0 pairs1).2.1 l2 = Bool.true then (if (↑(List.length l2) : Int) ≤ (↑(List.length ((ChangesO.fn l2).1 ++ [((201 : Int), (0 : Int), Bool.false)])) : Int) then (if SameChanges.pre (List.take (Int.toNat (↑(List.length l2) : Int)) ((ChangesO.fn l2).1 ++ [((201 : Int), (0 : Int), Bool.false)])) l2 = Bool.true then (if (!(SameChanges.fn (List.take (Int.toNat (↑(List.length l2) : Int)) ((ChangesO.fn l2).1 ++ [((201 : Int), (0 : Int), Bool.false)])) l2).1) = Bool.false then (if (↑(List.length l2) : Int) < (↑(List.length ((ChangesO.fn l2).1 ++ [((201 : Int), (0 : Int), Bool.false)])) : Int) then (if ((List.getD ((ChangesO.fn l2).1 ++ [((201 : Int), (0 : Int), Bool.false)]) (Int.toNat (↑(List.length l2) : Int)) ((0 : Int), (0 : Int), Bool.false)).1 != (201 : Int)) = Bool.false then (if num5.pre (Changed.fn (made5.fn n0 pairs1).1 (List.take (Int.toNat (↑(List.length l2) : Int)) ((ChangesO.fn l2).1 ++ [((201 : Int), (0 : Int), Bool.false)]))).2.1 = Bool.true then (if ((num5.fn (Changed.fn (made5.fn n0 pairs1).1 (List.take (Int.toNat (↑(List.length l2) : Int)) ((ChangesO.fn l2).1 ++ [((201 : Int), (0 : Int), Bool.false)]))).2.1).1 != (Chg5.fn (made5.fn n0 pairs1).2.1 l2).2.1) = Bool.false then (if (!Option.isNone (Changed.fn (made5.fn n0 pairs1).1 (List.take (Int.toNat (↑(List.length l2) : Int)) ((ChangesO.fn l2).1 ++ [((201 : Int), (0 : Int), Bool.false)]))).1 == Option.isNone (Chg5.fn (made5.fn n0 pairs1).2.1 l2).1) = Bool.true then some (Bool.false, ())
 else (match F15 ((made5.fn n0 pairs1).1) ((made5.fn n0 pairs1).2.1) ((Changed.fn (made5.fn n0 pairs1).1 (List.take (Int.toNat (↑(List.length l2) : Int)) ((ChangesO.fn l2).1 ++ [((201 : Int), (0 : Int), Bool.false)]))).1) ((Chg5.fn (made5.fn n0 pairs1).2.1 l2).1) ((0 : Int)) ((ChangesO.fn l2).1 ++ [((201 : Int), (0 : Int), Bool.false)]) with
  | some (((g9_1, r10_1, h13_1, s15_1, _), _)) => (if says5.pre g9_1 r10_1 = Bool.true then (if Option.isNone h13_1 = Bool.false then (if Option.isNone s15_1 = Bool.false then (if (!(says5.fn g9_1 r10_1).1) = Bool.true then some ((says5.fn g9_1 r10_1).1, ())
 else (if says5.pre h13_1 s15_1 = Bool.true then some ((says5.fn h13_1 s15_1).1, ())
 else none))
 else some ((says5.fn g9_1 r10_1).1, ()))
 else some ((says5.fn g9_1 r10_1).1, ()))
 else none)
  | none => none))
 else some (Bool.false, ()))
 else none)
 else some (Bool.false, ()))
 else none)
 else some (Bool.false, ()))
 else none)
 else none)
 else none)
 else none)
 else none)
 else none)
 else none))
 else some ((made5.fn n0 pairs1).2.2.1, ()))
 else some ((made5.fn n0 pairs1).2.2.1, ()))
 else none))
 else some (first5.fn.1, ()))
 else some (first5.fn.1, ()))
 else none)
 else none)
noncomputable def run (d : Ds (List.map PM.ty ps)) : Option (Ds (muts ps ++ List.map PM.ty rs)) := match d with
  | (n0, pairs1, l2, _) => run' n0 pairs1 l2
theorem run_is : ∀ d, runF env 131 code [6] ps rs d = run d := fun d => by kernel_rfl
theorem loops : LoopsOk env code := loopsOk_of (l := [[true, true, true, true, true, true, true, true, true, true, true, false, true, false, false]]) (by kernel_rfl) (fun p hp => by
  simp only [List.mem_cons, List.not_mem_nil, or_false] at hp
  rcases hp with rfl
  · exact loopOk_lp (L := L15) (x := sub [true, true, true, true, true, true, true, true, true, true, true, false, true, false, false] code) (by kernel_rfl) (by simp [L15]) round15 ends15
  )
noncomputable def pre (n0 : Int) (pairs1 : (List (Int × Int))) (l2 : (List (Int × (Int × Bool)))) : Bool := (run' n0 pairs1 l2).isSome
noncomputable def fn (n0 : Int) (pairs1 : (List (Int × Int))) (l2 : (List (Int × (Int × Bool)))) : D := match run' n0 pairs1 l2 with
  | some x => x
  | none => default
noncomputable def sig : Sig := ⟨ps, rs, fun d => match d with
  | (n0, pairs1, l2, _) => pre n0 pairs1 l2, fun d => match d with
  | (n0, pairs1, l2, _) => fn n0 pairs1 l2, false⟩
theorem run_fn (n0 : Int) (pairs1 : (List (Int × Int))) (l2 : (List (Int × (Int × Bool)))) (h : pre n0 pairs1 l2 = true) : run' n0 pairs1 l2 = some (fn n0 pairs1 l2) := by
  unfold pre at h
  unfold fn
  cases e : run' n0 pairs1 l2 with
  | some x => rfl
  | none => rw [e] at h; cases h
theorem is_fn (n0 : Int) (pairs1 : (List (Int × Int))) (l2 : (List (Int × (Int × Bool)))) {x : D} (h : run' n0 pairs1 l2 = some x) : pre n0 pairs1 l2 = true ∧ fn n0 pairs1 l2 = x := by
  unfold pre fn
  rw [h]
  exact ⟨rfl, rfl⟩
theorem sound {ρ : Obs} (hE : EnvOk Go.Proofs.Try.prog ρ env) : Sound Go.Proofs.Try.prog ρ 11 sig := sound_of (fn := Go.Proofs.Try.f11) (c := code) (res := [6]) hE (by kernel_rfl) (by kernel_rfl) (by kernel_rfl) (by kernel_rfl) (by kernel_rfl) loops rfl (show 3 ≤ 131 by decide) (fun d hd => (run_is d).trans (by
  obtain ⟨n0, pairs1, l2, _⟩ := d
  exact run_fn n0 pairs1 l2 hd))
theorem enters : Enters Go.Proofs.Try.prog 11 := enters_of (fn := Go.Proofs.Try.f11) (by kernel_rfl) (by kernel_rfl) (by kernel_rfl)
theorem ok {ρ : Obs} (h : ∀ p ∈ ([(31, first5.sig), (48, few5.sig), (49, made5.sig), (56, ChangesO.sig), (43, Changed.sig), (57, Chg5.sig), (58, SameChanges.sig), (44, num5.sig), (50, says5.sig)] : List (FuncId × Sig)), Enters Go.Proofs.Try.prog p.1 ∧ Sound Go.Proofs.Try.prog ρ p.1 p.2) : Enters Go.Proofs.Try.prog 11 ∧ Sound Go.Proofs.Try.prog ρ 11 sig := ⟨enters, sound (envOk_of tabOk h)⟩
theorem okR : Enters Go.Proofs.Try.prog 11 ∧ Sound Go.Proofs.Try.prog rho 11 sig := ok (fun p hp => by
  simp only [List.mem_cons, List.not_mem_nil, or_false] at hp
  rcases hp with rfl | rfl | rfl | rfl | rfl | rfl | rfl | rfl | rfl
  · exact first5.okR
  · exact few5.okR
  · exact made5.okR
  · exact ChangesO.okR
  · exact Changed.okR
  · exact Chg5.okR
  · exact SameChanges.okR
  · exact num5.okR
  · exact says5.okR)
end GraphChanged
/-! pith/pithlaw5.flags -/
namespace flags5
abbrev ps : List PM := [.val (.list .bool)]
abbrev rs : List PM := [.cutp 4 .bool]
noncomputable abbrev code : Code := (Go.Proofs.Try.f51.body.getD .skip)
noncomputable def env : Env := mkEnv tab [(117, BoolsO.sig)] 0 [] []
abbrev D : Type := (((List Bool) × Int) × Unit)
noncomputable def run' (l0 : (List Bool)) : Option D := (if BoolsO.pre l0 = Bool.true then (if (List.length (BoolsO.fn l0).1 + List.length [Bool.true, Bool.false, Bool.true]) * (1 : Nat) ≤ (140737488355328 : Nat) then (if (↑(List.length l0) : Int) ≤ (↑(List.length ((BoolsO.fn l0).1 ++ [Bool.true, Bool.false, Bool.true])) : Int) then some (((BoolsO.fn l0).1 ++ [Bool.true, Bool.false, Bool.true], (↑(Int.toNat (↑(List.length l0) : Int)) : Int)), ())
 else none)
 else none)
 else none)
noncomputable def run (d : Ds (List.map PM.ty ps)) : Option (Ds (muts ps ++ List.map PM.ty rs)) := match d with
  | (l0, _) => run' l0
theorem run_is : ∀ d, runF env 12 code [2] ps rs d = run d := fun d => by kernel_rfl
theorem loops : LoopsOk env code := loopsOk_of (l := []) (by kernel_rfl) (fun p hp => by
  cases hp)
noncomputable def pre (l0 : (List Bool)) : Bool := (run' l0).isSome
noncomputable def fn (l0 : (List Bool)) : D := match run' l0 with
  | some x => x
  | none => default
noncomputable def sig : Sig := ⟨ps, rs, fun d => match d with
  | (l0, _) => pre l0, fun d => match d with
  | (l0, _) => fn l0, false⟩
theorem run_fn (l0 : (List Bool)) (h : pre l0 = true) : run' l0 = some (fn l0) := by
  unfold pre at h
  unfold fn
  cases e : run' l0 with
  | some x => rfl
  | none => rw [e] at h; cases h
theorem is_fn (l0 : (List Bool)) {x : D} (h : run' l0 = some x) : pre l0 = true ∧ fn l0 = x := by
  unfold pre fn
  rw [h]
  exact ⟨rfl, rfl⟩
theorem sound {ρ : Obs} (hE : EnvOk Go.Proofs.Try.prog ρ env) : Sound Go.Proofs.Try.prog ρ 51 sig := sound_of (fn := Go.Proofs.Try.f51) (c := code) (res := [2]) hE (by kernel_rfl) (by kernel_rfl) (by kernel_rfl) (by kernel_rfl) (by kernel_rfl) loops rfl (show 1 ≤ 12 by decide) (fun d hd => (run_is d).trans (by
  obtain ⟨l0, _⟩ := d
  exact run_fn l0 hd))
theorem enters : Enters Go.Proofs.Try.prog 51 := enters_of (fn := Go.Proofs.Try.f51) (by kernel_rfl) (by kernel_rfl) (by kernel_rfl)
theorem ok {ρ : Obs} (h : ∀ p ∈ ([(117, BoolsO.sig)] : List (FuncId × Sig)), Enters Go.Proofs.Try.prog p.1 ∧ Sound Go.Proofs.Try.prog ρ p.1 p.2) : Enters Go.Proofs.Try.prog 51 ∧ Sound Go.Proofs.Try.prog ρ 51 sig := ⟨enters, sound (envOk_of tabOk h)⟩
theorem okR : Enters Go.Proofs.Try.prog 51 ∧ Sound Go.Proofs.Try.prog rho 51 sig := ok (fun p hp => by
  simp only [List.mem_cons, List.not_mem_nil, or_false] at hp
  rcases hp with rfl
  · exact BoolsO.okR)
end flags5
/-! pith/pithlaw5.unturned -/
namespace unturn5
abbrev ps : List PM := [.cutp 4 .bool, .val (.list .bool)]
abbrev rs : List PM := [.val .bool]
noncomputable abbrev code : Code := (Go.Proofs.Try.f52.body.getD .skip)
abbrev s5 : Shape := ⟨[.un, .un, .un, .un, .un, .v .bool, .cut 0 true, .v .bool, .v I64, .un, .un, .un, .un, .un, .un, .un, .un, .un, .un, .un, .un, .un, .un, .un, .un, .un, .un, .un, .un, .un, .un, .un, .un, .un, .un, .un, .un, .un, .un, .un, .un, .un, .un, .un, .un, .un, .un, .un, .un, .un, .un, .un, .un, .un, .un, .un, .un], [.row (4 : Go.TypeId) .bool]⟩
abbrev x5 : List Way := [⟨(.ex 0), ⟨[(5, none), (7, none)]⟩, ⟨[.un, .un, .un, .un, .un, .v .bool, .un, .v .bool, .un, .un, .un, .un, .un, .un, .un, .un, .un, .un, .un, .un, .un, .un, .un, .un, .un, .un, .un, .un, .un, .un, .un, .un, .un, .un, .un, .un, .un, .un, .un, .un, .un, .un, .un, .un, .un, .un, .un, .un, .un, .un, .un, .un, .un, .un, .un, .un, .un], [.row (4 : Go.TypeId) .bool]⟩⟩]
abbrev V5 : Type := (Bool × Nat × Bool × Int × Unit) × ((List Bool) × Unit)
abbrev X5 : Type := (Bool × Bool × Unit) × ((List Bool) × Unit)
noncomputable def R5 {R : Type} (same5 : Bool) (all6 : Nat) (ok7 : Bool) (i8 : Int) (r0 : List Bool) (k : V5 → Option R) (kx : X5 → Option R) : Option R := (if Decidable.decide (i8 < (↑all6 : Int)) = Bool.true then (if (0 : Int) ≤ i8 then (if i8 < (↑all6 : Int) then (if (0 : Int) ≤ i8 then (if i8 < (↑all6 : Int) then (if Int.toNat i8 < List.length r0 then k ((same5, all6, ok7, IntKind.wrap .i64 (i8 + (1 : Int)), ()), (List.set r0 (Int.toNat i8) !List.getD r0 (Int.toNat i8) Bool.false, ()))
 else none)
 else none)
 else none)
 else none)
 else none)
 else kx (((same5, ok7, ()), (r0, ()))))
noncomputable def rd5 : Rd (VO s5) (Xs x5) := fun v k kx => match v with
  | ((same5, all6, ok7, i8, _), (r0, _)) => R5 same5 all6 ok7 i8 r0 k kx
noncomputable def F5 (same5 : Bool) (all6 : Nat) (ok7 : Bool) (i8 : Int) (r0 : List Bool) : Option X5 := finOf rd5 ((same5, all6, ok7, i8, ()), (r0, ()))
theorem F5_inv {same5 : Bool} {all6 : Nat} {ok7 : Bool} (I : Int → List Bool → Prop) (μ : Int → List Bool → Nat) (Q : X5 → Prop) (h : ∀ (i8 : Int) (r0 : List Bool), I i8 r0 → Led (fun (R : Type) (k : V5 → Option R) (kx : X5 → Option R) => R5 same5 all6 ok7 i8 r0 k kx) (fun v => ∃ (i8' : Int) (r0' : List Bool), v = ((same5, all6, ok7, i8', ()), (r0', ())) ∧ I i8' r0' ∧ μ i8' r0' < μ i8 r0) Q) : ∀ (i8 : Int) (r0 : List Bool), I i8 r0 → ∃ z, F5 same5 all6 ok7 i8 r0 = some z ∧ Q z := fun i8 r0 hi => by
  refine finOf_inv (V := V5) (X := X5) (rd := rd5) (fun v => ∃ (i8' : Int) (r0' : List Bool), v = ((same5, all6, ok7, i8', ()), (r0', ())) ∧ I i8' r0') (fun v => match v with
    | ((same5, all6, ok7, i8, _), (r0, _)) => μ i8 r0) Q (fun v hv => ?_) ((same5, all6, ok7, i8, ()), (r0, ())) ⟨i8, r0, rfl, hi⟩
  obtain ⟨i8, r0, rfl, hi⟩ := hv
  refine led_mono (h i8 r0 hi) ?_ (fun _ q => q)
  rintro v ⟨i8', r0', rfl, h1, h2⟩
  exact ⟨⟨i8', r0', rfl, h1⟩, h2⟩
noncomputable def L5 : Lp := ⟨5, ⟨[(5, none), (6, none), (7, none), (8, none)]⟩, s5, x5, fun v => match v with
  | ((same5, all6, ok7, i8, _), (r0, _)) => F5 same5 all6 ok7 i8 r0⟩
theorem ends5 : Ends L5 rd5 := ends_fin (fun v => by
  obtain ⟨⟨same5, all6, ok7, i8, _⟩, ⟨r0, _⟩⟩ := v
  rfl)
noncomputable def env : Env := mkEnv tab [(118, SameBools.sig)] 1 [] [L5]
theorem round5 : RoundIs env (sub [true, true, true, true, false, true, false, false] code) L5 rd5 := fun R v k kx => by kernel_rfl
abbrev D : Type := ((List Bool) × Bool × Unit)
noncomputable def run' (m0_0 : (List Bool)) (m0_1 : Int) (l1 : (List Bool)) : Option D := (if SameBools.pre (List.take (Int.toNat m0_1) m0_0) l1 = Bool.true then (if (0 : Int) ≤ IntKind.wrap .i64 ((↑(List.length l1) : Int) + (3 : Int)) then (if IntKind.wrap .i64 ((↑(List.length l1) : Int) + (3 : Int)) ≤ (↑(List.length m0_0) : Int) then (if (↑(List.length l1) : Int) < (↑(Int.toNat (IntKind.wrap .i64 ((↑(List.length l1) : Int) + (3 : Int)))) : Int) then (if List.getD m0_0 (Int.toNat (↑(List.length l1) : Int)) Bool.false = Bool.true then (if (0 : Int) ≤ IntKind.wrap .i64 ((↑(List.length l1) : Int) + (1 : Int)) then (if IntKind.wrap .i64 ((↑(List.length l1) : Int) + (1 : Int)) < (↑(Int.toNat (IntKind.wrap .i64 ((↑(List.length l1) : Int) + (3 : Int)))) : Int) then (if (!List.getD m0_0 (Int.toNat (IntKind.wrap .i64 ((↑(List.length l1) : Int) + (1 : Int)))) Bool.false) = Bool.true then (if (0 : Int) ≤ IntKind.wrap .i64 ((↑(List.length l1) : Int) + (2 : Int)) then (if IntKind.wrap .i64 ((↑(List.length l1) : Int) + (2 : Int)) < (↑(Int.toNat (IntKind.wrap .i64 ((↑(List.length l1) : Int) + (3 : Int)))) : Int) then (match F5 ((SameBools.fn (List.take (Int.toNat m0_1) m0_0) l1).1) (Int.toNat (IntKind.wrap .i64 ((↑(List.length l1) : Int) + (3 : Int)))) (List.getD m0_0 (Int.toNat (IntKind.wrap .i64 ((↑(List.length l1) : Int) + (2 : Int)))) Bool.false) ((0 : Int)) (m0_0) with
  | some (((same5_1, ok7_1, _), (r0_1, _))) => (if same5_1 = Bool.true then some (r0_1, ok7_1, ())
 else some (r0_1, Bool.false, ()))
  | none => none)
 else none)
 else none)
 else (match F5 ((SameBools.fn (List.take (Int.toNat m0_1) m0_0) l1).1) (Int.toNat (IntKind.wrap .i64 ((↑(List.length l1) : Int) + (3 : Int)))) (Bool.false) ((0 : Int)) (m0_0) with
  | some (((same5_2, ok7_2, _), (r0_2, _))) => (if same5_2 = Bool.true then some (r0_2, ok7_2, ())
 else some (r0_2, Bool.false, ()))
  | none => none))
 else none)
 else none)
 else (match F5 ((SameBools.fn (List.take (Int.toNat m0_1) m0_0) l1).1) (Int.toNat (IntKind.wrap .i64 ((↑(List.length l1) : Int) + (3 : Int)))) (Bool.false) ((0 : Int)) (m0_0) with
  | some (((same5_3, ok7_3, _), (r0_3, _))) => (if same5_3 = Bool.true then some (r0_3, ok7_3, ())
 else some (r0_3, Bool.false, ()))
  | none => none))
 else none)
 else none)
 else none)
 else none)
noncomputable def run (d : Ds (List.map PM.ty ps)) : Option (Ds (muts ps ++ List.map PM.ty rs)) := match d with
  | ((m0_0, m0_1), l1, _) => run' m0_0 m0_1 l1
theorem run_is : ∀ d, runF env 57 code [4] ps rs d = run d := fun d => by kernel_rfl
theorem loops : LoopsOk env code := loopsOk_of (l := [[true, true, true, true, false, true, false, false]]) (by kernel_rfl) (fun p hp => by
  simp only [List.mem_cons, List.not_mem_nil, or_false] at hp
  rcases hp with rfl
  · exact loopOk_lp (L := L5) (x := sub [true, true, true, true, false, true, false, false] code) (by kernel_rfl) (by simp [L5]) round5 ends5
  )
noncomputable def pre (m0_0 : (List Bool)) (m0_1 : Int) (l1 : (List Bool)) : Bool := (run' m0_0 m0_1 l1).isSome
noncomputable def fn (m0_0 : (List Bool)) (m0_1 : Int) (l1 : (List Bool)) : D := match run' m0_0 m0_1 l1 with
  | some x => x
  | none => default
noncomputable def sig : Sig := ⟨ps, rs, fun d => match d with
  | ((m0_0, m0_1), l1, _) => pre m0_0 m0_1 l1, fun d => match d with
  | ((m0_0, m0_1), l1, _) => fn m0_0 m0_1 l1, false⟩
theorem run_fn (m0_0 : (List Bool)) (m0_1 : Int) (l1 : (List Bool)) (h : pre m0_0 m0_1 l1 = true) : run' m0_0 m0_1 l1 = some (fn m0_0 m0_1 l1) := by
  unfold pre at h
  unfold fn
  cases e : run' m0_0 m0_1 l1 with
  | some x => rfl
  | none => rw [e] at h; cases h
theorem is_fn (m0_0 : (List Bool)) (m0_1 : Int) (l1 : (List Bool)) {x : D} (h : run' m0_0 m0_1 l1 = some x) : pre m0_0 m0_1 l1 = true ∧ fn m0_0 m0_1 l1 = x := by
  unfold pre fn
  rw [h]
  exact ⟨rfl, rfl⟩
theorem sound {ρ : Obs} (hE : EnvOk Go.Proofs.Try.prog ρ env) : Sound Go.Proofs.Try.prog ρ 52 sig := sound_of (fn := Go.Proofs.Try.f52) (c := code) (res := [4]) hE (by kernel_rfl) (by kernel_rfl) (by kernel_rfl) (by kernel_rfl) (by kernel_rfl) loops rfl (show 2 ≤ 57 by decide) (fun d hd => (run_is d).trans (by
  obtain ⟨⟨m0_0, m0_1⟩, l1, _⟩ := d
  exact run_fn m0_0 m0_1 l1 hd))
theorem enters : Enters Go.Proofs.Try.prog 52 := enters_of (fn := Go.Proofs.Try.f52) (by kernel_rfl) (by kernel_rfl) (by kernel_rfl)
theorem ok {ρ : Obs} (h : ∀ p ∈ ([(118, SameBools.sig)] : List (FuncId × Sig)), Enters Go.Proofs.Try.prog p.1 ∧ Sound Go.Proofs.Try.prog ρ p.1 p.2) : Enters Go.Proofs.Try.prog 52 ∧ Sound Go.Proofs.Try.prog ρ 52 sig := ⟨enters, sound (envOk_of tabOk h)⟩
theorem okR : Enters Go.Proofs.Try.prog 52 ∧ Sound Go.Proofs.Try.prog rho 52 sig := ok (fun p hp => by
  simp only [List.mem_cons, List.not_mem_nil, or_false] at hp
  rcases hp with rfl
  · exact SameBools.okR)
end unturn5
end Go.Proofs.Ythbojpaghbbnnaa.Z
