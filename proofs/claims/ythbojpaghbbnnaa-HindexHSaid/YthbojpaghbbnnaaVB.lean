/- What functions compute from plain values: HindexH. Printed by a small program of ours (zgen, zg.py); no condition. -/
import Derived.Test.YthbojpaghbbnnaaZN
import Derived.Test.YthbojpaghbbnnaaZT
import Derived.Test.YthbojpaghbbnnaaZP
import Derived.Test.YthbojpaghbbnnaaZS
import Derived.Test.YthbojpaghbbnnaaVA
import Derived.Test.YthbojpaghbbnnaaWB
import Derived.KernelRfl
namespace Go.Proofs.Ythbojpaghbbnnaa.Z
open Go Go.RowKit
set_option linter.unusedVariables false
set_option linter.unusedSimpArgs false
/-! pith/pithlaw7.HindexH -/
namespace HindexH
abbrev ps : List PM := [.val (.list I64), .val I64, .val I64, .val I64]
abbrev rs : List PM := [.val .bool]
noncomputable abbrev code : Code := (Go.Proofs.Try.f13.body.getD .skip)
noncomputable def env : Env := mkEnv tab [(66, first7.sig), (67, IntsO.sig), (53, SameIntsH.sig), (68, HH.sig), (69, H7.sig)] 0 [] []
abbrev D : Type := (Bool × Unit)
noncomputable def run' (l0 : (List Int)) (m1 : Int) (at2 : Int) (to3 : Int) : Option D := (if first7.pre = Bool.true then (if (!first7.fn.1) = Bool.false then (if Decidable.decide ((↑(List.length l0) : Int) > (16384 : Int)) = Bool.true then some (first7.fn.1, ())
 else (if IntsO.pre l0 = Bool.true then (if (List.length (IntsO.fn l0).1 + List.length [(-7 : Int), (-8 : Int)]) * (8 : Nat) ≤ (140737488355328 : Nat) then (if (↑(List.length l0) : Int) ≤ IntKind.wrap .i64 ((↑(List.length l0) : Int) + (2 : Int)) then (if IntKind.wrap .i64 ((↑(List.length l0) : Int) + (2 : Int)) ≤ (↑(List.length ((IntsO.fn l0).1 ++ [(-7 : Int), (-8 : Int)])) : Int) then (if HH.pre (List.take (Int.toNat (↑(List.length l0) : Int)) ((IntsO.fn l0).1 ++ [(-7 : Int), (-8 : Int)])) m1 = Bool.true then (if IntsO.pre l0 = Bool.true then (if (List.length (IntsO.fn l0).1 + List.length [(-7 : Int), (-8 : Int)]) * (8 : Nat) ≤ (140737488355328 : Nat) then (if SameIntsH.pre ((IntsO.fn l0).1 ++ [(-7 : Int), (-8 : Int)]) ((IntsO.fn l0).1 ++ [(-7 : Int), (-8 : Int)]) = Bool.true then (if (!(SameIntsH.fn ((IntsO.fn l0).1 ++ [(-7 : Int), (-8 : Int)]) ((IntsO.fn l0).1 ++ [(-7 : Int), (-8 : Int)])).1) = Bool.false then (if H7.pre l0 m1 = Bool.true then (if ((HH.fn (List.take (Int.toNat (↑(List.length l0) : Int)) ((IntsO.fn l0).1 ++ [(-7 : Int), (-8 : Int)])) m1).1 != (H7.fn l0 m1).1) = Bool.true then some (Bool.false, ())
 else (if ((↑(List.length l0) : Int) == (0 : Int)) = Bool.true then some (Bool.true, ())
 else (if (↑(List.length l0) : Int) = (0 : Int) then none
 else (if (↑(List.length l0) : Int) = (0 : Int) then none
 else (if (0 : Int) ≤ Int.tmod (IntKind.wrap .i64 (Int.tmod at2 (↑(List.length l0) : Int) + (↑(List.length l0) : Int))) (↑(List.length l0) : Int) then (if Int.tmod (IntKind.wrap .i64 (Int.tmod at2 (↑(List.length l0) : Int) + (↑(List.length l0) : Int))) (↑(List.length l0) : Int) < (↑(List.length ((IntsO.fn l0).1 ++ [(-7 : Int), (-8 : Int)])) : Int) then (if Int.toNat (Int.tmod (IntKind.wrap .i64 (Int.tmod at2 (↑(List.length l0) : Int) + (↑(List.length l0) : Int))) (↑(List.length l0) : Int)) < List.length ((IntsO.fn l0).1 ++ [(-7 : Int), (-8 : Int)]) then (if (↑(List.length l0) : Int) ≤ (↑(List.length (List.set ((IntsO.fn l0).1 ++ [(-7 : Int), (-8 : Int)]) (Int.toNat (Int.tmod (IntKind.wrap .i64 (Int.tmod at2 (↑(List.length l0) : Int) + (↑(List.length l0) : Int))) (↑(List.length l0) : Int))) to3)) : Int) then (if IntsO.pre (List.take (Int.toNat (↑(List.length l0) : Int)) (List.set ((IntsO.fn l0).1 ++ [(-7 : Int), (-8 : Int)]) (Int.toNat (Int.tmod (IntKind.wrap .i64 (Int.tmod at2 (↑(List.length l0) : Int) + (↑(List.length l0) : Int))) (↑(List.length l0) : Int))) to3)) = Bool.true then (if (↑(List.length l0) : Int) ≤ IntKind.wrap .i64 ((↑(List.length l0) : Int) + (2 : Int)) then (if IntKind.wrap .i64 ((↑(List.length l0) : Int) + (2 : Int)) ≤ (↑(List.length (List.set ((IntsO.fn l0).1 ++ [(-7 : Int), (-8 : Int)]) (Int.toNat (Int.tmod (IntKind.wrap .i64 (Int.tmod at2 (↑(List.length l0) : Int) + (↑(List.length l0) : Int))) (↑(List.length l0) : Int))) to3)) : Int) then (if HH.pre (List.take (Int.toNat (↑(List.length l0) : Int)) (List.set ((IntsO.fn l0).1 ++ [(-7 : Int), (-8 : Int)]) (Int.toNat (Int.tmod (IntKind.wrap .i64 (Int.tmod at2 (↑(List.length l0) : Int) + (↑(List.length l0) : Int))) (↑(List.length l0) : Int))) to3)) m1 = Bool.true then (if H7.pre (IntsO.fn (List.take (Int.toNat (↑(List.length l0) : Int)) (List.set ((IntsO.fn l0).1 ++ [(-7 : Int), (-8 : Int)]) (Int.toNat (Int.tmod (IntKind.wrap .i64 (Int.tmod at2 (↑(List.length l0) : Int) + (↑(List.length l0) : Int))) (↑(List.length l0) : Int))) to3))).1 m1 = Bool.true then some ((HH.fn (List.take (Int.toNat (↑(List.length l0) : Int)) (List.set ((IntsO.fn l0).1 ++ [(-7 : Int), (-8 : Int)]) (Int.toNat (Int.tmod (IntKind.wrap .i64 (Int.tmod at2 (↑(List.length l0) : Int) + (↑(List.length l0) : Int))) (↑(List.length l0) : Int))) to3)) m1).1 == (H7.fn (IntsO.fn (List.take (Int.toNat (↑(List.length l0) : Int)) (List.set ((IntsO.fn l0).1 ++ [(-7 : Int), (-8 : Int)]) (Int.toNat (Int.tmod (IntKind.wrap .i64 (Int.tmod at2 (↑(List.length l0) : Int) + (↑(List.length l0) : Int))) (↑(List.length l0) : Int))) to3))).1 m1).1, ())
 else none)
 else none)
 else none)
 else none)
 else none)
 else none)
 else none)
 else none)
 else none)))))
 else none)
 else some (Bool.false, ()))
 else none)
 else none)
 else none)
 else none)
 else none)
 else none)
 else none)
 else none))
 else some (first7.fn.1, ()))
 else none)
noncomputable def run (d : Ds (List.map PM.ty ps)) : Option (Ds (muts ps ++ List.map PM.ty rs)) := match d with
  | (l0, m1, at2, to3, _) => run' l0 m1 at2 to3
theorem run_is : ∀ d, runF env 79 code [8] ps rs d = run d := fun d => by kernel_rfl
theorem loops : LoopsOk env code := loopsOk_of (l := []) (by kernel_rfl) (fun p hp => by
  cases hp)
noncomputable def pre (l0 : (List Int)) (m1 : Int) (at2 : Int) (to3 : Int) : Bool := (run' l0 m1 at2 to3).isSome
noncomputable def fn (l0 : (List Int)) (m1 : Int) (at2 : Int) (to3 : Int) : D := match run' l0 m1 at2 to3 with
  | some x => x
  | none => default
noncomputable def sig : Sig := ⟨ps, rs, fun d => match d with
  | (l0, m1, at2, to3, _) => pre l0 m1 at2 to3, fun d => match d with
  | (l0, m1, at2, to3, _) => fn l0 m1 at2 to3⟩
theorem run_fn (l0 : (List Int)) (m1 : Int) (at2 : Int) (to3 : Int) (h : pre l0 m1 at2 to3 = true) : run' l0 m1 at2 to3 = some (fn l0 m1 at2 to3) := by
  unfold pre at h
  unfold fn
  cases e : run' l0 m1 at2 to3 with
  | some x => rfl
  | none => rw [e] at h; cases h
theorem is_fn (l0 : (List Int)) (m1 : Int) (at2 : Int) (to3 : Int) {x : D} (h : run' l0 m1 at2 to3 = some x) : pre l0 m1 at2 to3 = true ∧ fn l0 m1 at2 to3 = x := by
  unfold pre fn
  rw [h]
  exact ⟨rfl, rfl⟩
theorem sound {ρ : Obs} (hE : EnvOk Go.Proofs.Try.prog ρ env) : Sound Go.Proofs.Try.prog ρ 13 sig := sound_of (fn := Go.Proofs.Try.f13) (c := code) (res := [8]) hE (by kernel_rfl) (by kernel_rfl) (by kernel_rfl) (by kernel_rfl) (by kernel_rfl) loops rfl (show 4 ≤ 79 by decide) (fun d hd => (run_is d).trans (by
  obtain ⟨l0, m1, at2, to3, _⟩ := d
  exact run_fn l0 m1 at2 to3 hd))
theorem enters : Enters Go.Proofs.Try.prog 13 := enters_of (fn := Go.Proofs.Try.f13) (by kernel_rfl) (by kernel_rfl) (by kernel_rfl)
theorem ok {ρ : Obs} (h : ∀ p ∈ ([(66, first7.sig), (67, IntsO.sig), (53, SameIntsH.sig), (68, HH.sig), (69, H7.sig)] : List (FuncId × Sig)), Enters Go.Proofs.Try.prog p.1 ∧ Sound Go.Proofs.Try.prog ρ p.1 p.2) : Enters Go.Proofs.Try.prog 13 ∧ Sound Go.Proofs.Try.prog ρ 13 sig := ⟨enters, sound (envOk_of tabOk h)⟩
theorem okR : Enters Go.Proofs.Try.prog 13 ∧ Sound Go.Proofs.Try.prog rho 13 sig := ok (fun p hp => by
  simp only [List.mem_cons, List.not_mem_nil, or_false] at hp
  rcases hp with rfl | rfl | rfl | rfl | rfl
  · exact first7.okR
  · exact IntsO.okR
  · exact SameIntsH.okR
  · exact HH.okR
  · exact H7.okR)
end HindexH
end Go.Proofs.Ythbojpaghbbnnaa.Z
