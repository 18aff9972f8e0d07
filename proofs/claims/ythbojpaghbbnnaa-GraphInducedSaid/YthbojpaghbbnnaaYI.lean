/- What functions compute from plain values: GraphInduced. Printed by a small program of ours (zgen, zg.py); no condition. -/
import Derived.Test.YthbojpaghbbnnaaZN
import Derived.Test.YthbojpaghbbnnaaZT
import Derived.Test.YthbojpaghbbnnaaZP
import Derived.Test.YthbojpaghbbnnaaZS
import Derived.Test.YthbojpaghbbnnaaYA
import Derived.Test.YthbojpaghbbnnaaYB
import Derived.Test.YthbojpaghbbnnaaYE
import Derived.KernelRfl
namespace Go.Proofs.Ythbojpaghbbnnaa.Z
open Go Go.RowKit
set_option linter.unusedVariables false
set_option linter.unusedSimpArgs false
/-! pith/pithlaw5.GraphInduced -/
namespace GraphInduced
abbrev ps : List PM := [.val I64, .val (.list Pr), .val (.list .bool)]
abbrev rs : List PM := [.val .bool]
noncomputable abbrev code : Code := (Go.Proofs.Try.f10.body.getD .skip)
noncomputable def env : Env := mkEnv tab [(31, first5.sig), (48, few5.sig), (49, made5.sig), (51, flags5.sig), (40, Induced.sig), (52, unturn5.sig), (37, Parts.sig), (53, SameIntsH.sig), (54, Parts5.sig), (55, Ind5.sig), (50, says5.sig)] 0 [] []
abbrev D : Type := (Bool × Unit)
noncomputable def run' (n0 : Int) (pairs1 : (List (Int × Int))) (keep2 : (List Bool)) : Option D := (if first5.pre = Bool.true then (if few5.pre n0 pairs1 = Bool.true then (if (!first5.fn.1) = Bool.false then (if (!(few5.fn n0 pairs1).1) = Bool.false then (if Decidable.decide ((↑(List.length keep2) : Int) > (20000 : Int)) = Bool.true then some (first5.fn.1, ())
 else (if made5.pre n0 pairs1 = Bool.true then (if Option.isNone (made5.fn n0 pairs1).1 = Bool.false then (if Option.isNone (made5.fn n0 pairs1).2.1 = Bool.false then (if (!(made5.fn n0 pairs1).2.2.1) = Bool.true then some ((made5.fn n0 pairs1).2.2.1, ())
 else (if flags5.pre keep2 = Bool.true then (if Induced.pre (made5.fn n0 pairs1).1 (List.take (Int.toNat (flags5.fn keep2).1.2) (flags5.fn keep2).1.1) = Bool.true then (if unturn5.pre (flags5.fn keep2).1.1 (↑(Int.toNat (flags5.fn keep2).1.2) : Int) keep2 = Bool.true then (if flags5.pre keep2 = Bool.true then (if Parts.pre (made5.fn n0 pairs1).1 (List.take (Int.toNat (flags5.fn keep2).1.2) (flags5.fn keep2).1.1) = Bool.true then (if unturn5.pre (flags5.fn keep2).1.1 (↑(Int.toNat (flags5.fn keep2).1.2) : Int) keep2 = Bool.true then (if Parts5.pre (made5.fn n0 pairs1).2.1 keep2 = Bool.true then (if SameIntsH.pre (Parts.fn (made5.fn n0 pairs1).1 (List.take (Int.toNat (flags5.fn keep2).1.2) (flags5.fn keep2).1.1)).1 (Parts5.fn (made5.fn n0 pairs1).2.1 keep2).1 = Bool.true then (if Option.isNone (Induced.fn (made5.fn n0 pairs1).1 (List.take (Int.toNat (flags5.fn keep2).1.2) (flags5.fn keep2).1.1)).1 = Bool.false then (if (!(unturn5.fn (flags5.fn keep2).1.1 (↑(Int.toNat (flags5.fn keep2).1.2) : Int) keep2).2.1) = Bool.false then (if (!(unturn5.fn (flags5.fn keep2).1.1 (↑(Int.toNat (flags5.fn keep2).1.2) : Int) keep2).2.1) = Bool.false then (if (!(SameIntsH.fn (Parts.fn (made5.fn n0 pairs1).1 (List.take (Int.toNat (flags5.fn keep2).1.2) (flags5.fn keep2).1.1)).1 (Parts5.fn (made5.fn n0 pairs1).2.1 keep2).1).1) = Bool.true then some (Bool.false, ())
 else (if Ind5.pre (made5.fn n0 pairs1).2.1 keep2 = Bool.true then (if says5.pre (Induced.fn (made5.fn n0 pairs1).1 (List.take (Int.toNat (flags5.fn keep2).1.2) (flags5.fn keep2).1.1)).1 (Ind5.fn (made5.fn n0 pairs1).2.1 keep2).1 = Bool.true then (if says5.pre (made5.fn n0 pairs1).1 (made5.fn n0 pairs1).2.1 = Bool.true then (if (says5.fn (Induced.fn (made5.fn n0 pairs1).1 (List.take (Int.toNat (flags5.fn keep2).1.2) (flags5.fn keep2).1.1)).1 (Ind5.fn (made5.fn n0 pairs1).2.1 keep2).1).1 = Bool.true then some ((says5.fn (made5.fn n0 pairs1).1 (made5.fn n0 pairs1).2.1).1, ())
 else some (Bool.false, ()))
 else none)
 else none)
 else none))
 else some (Bool.false, ()))
 else some (Bool.false, ()))
 else some (Bool.false, ()))
 else none)
 else none)
 else none)
 else none)
 else none)
 else none)
 else none)
 else none))
 else some ((made5.fn n0 pairs1).2.2.1, ()))
 else some ((made5.fn n0 pairs1).2.2.1, ()))
 else none))
 else some (first5.fn.1, ()))
 else some (first5.fn.1, ()))
 else none)
 else none)
noncomputable def run (d : Ds (List.map PM.ty ps)) : Option (Ds (muts ps ++ List.map PM.ty rs)) := match d with
  | (n0, pairs1, keep2, _) => run' n0 pairs1 keep2
theorem run_is : ∀ d, runF env 102 code [6] ps rs d = run d := fun d => by kernel_rfl
theorem loops : LoopsOk env code := loopsOk_of (l := []) (by kernel_rfl) (fun p hp => by
  cases hp)
noncomputable def pre (n0 : Int) (pairs1 : (List (Int × Int))) (keep2 : (List Bool)) : Bool := (run' n0 pairs1 keep2).isSome
noncomputable def fn (n0 : Int) (pairs1 : (List (Int × Int))) (keep2 : (List Bool)) : D := match run' n0 pairs1 keep2 with
  | some x => x
  | none => default
noncomputable def sig : Sig := ⟨ps, rs, fun d => match d with
  | (n0, pairs1, keep2, _) => pre n0 pairs1 keep2, fun d => match d with
  | (n0, pairs1, keep2, _) => fn n0 pairs1 keep2, false⟩
theorem run_fn (n0 : Int) (pairs1 : (List (Int × Int))) (keep2 : (List Bool)) (h : pre n0 pairs1 keep2 = true) : run' n0 pairs1 keep2 = some (fn n0 pairs1 keep2) := by
  unfold pre at h
  unfold fn
  cases e : run' n0 pairs1 keep2 with
  | some x => rfl
  | none => rw [e] at h; cases h
theorem is_fn (n0 : Int) (pairs1 : (List (Int × Int))) (keep2 : (List Bool)) {x : D} (h : run' n0 pairs1 keep2 = some x) : pre n0 pairs1 keep2 = true ∧ fn n0 pairs1 keep2 = x := by
  unfold pre fn
  rw [h]
  exact ⟨rfl, rfl⟩
theorem sound {ρ : Obs} (hE : EnvOk Go.Proofs.Try.prog ρ env) : Sound Go.Proofs.Try.prog ρ 10 sig := sound_of (fn := Go.Proofs.Try.f10) (c := code) (res := [6]) hE (by kernel_rfl) (by kernel_rfl) (by kernel_rfl) (by kernel_rfl) (by kernel_rfl) loops rfl (show 3 ≤ 102 by decide) (fun d hd => (run_is d).trans (by
  obtain ⟨n0, pairs1, keep2, _⟩ := d
  exact run_fn n0 pairs1 keep2 hd))
theorem enters : Enters Go.Proofs.Try.prog 10 := enters_of (fn := Go.Proofs.Try.f10) (by kernel_rfl) (by kernel_rfl) (by kernel_rfl)
theorem ok {ρ : Obs} (h : ∀ p ∈ ([(31, first5.sig), (48, few5.sig), (49, made5.sig), (51, flags5.sig), (40, Induced.sig), (52, unturn5.sig), (37, Parts.sig), (53, SameIntsH.sig), (54, Parts5.sig), (55, Ind5.sig), (50, says5.sig)] : List (FuncId × Sig)), Enters Go.Proofs.Try.prog p.1 ∧ Sound Go.Proofs.Try.prog ρ p.1 p.2) : Enters Go.Proofs.Try.prog 10 ∧ Sound Go.Proofs.Try.prog ρ 10 sig := ⟨enters, sound (envOk_of tabOk h)⟩
theorem okR : Enters Go.Proofs.Try.prog 10 ∧ Sound Go.Proofs.Try.prog rho 10 sig := ok (fun p hp => by
  simp only [List.mem_cons, List.not_mem_nil, or_false] at hp
  rcases hp with rfl | rfl | rfl | rfl | rfl | rfl | rfl | rfl | rfl | rfl | rfl
  · exact first5.okR
  · exact few5.okR
  · exact made5.okR
  · exact flags5.okR
  · exact Induced.okR
  · exact unturn5.okR
  · exact Parts.okR
  · exact SameIntsH.okR
  · exact Parts5.okR
  · exact Ind5.okR
  · exact says5.okR)
end GraphInduced
end Go.Proofs.Ythbojpaghbbnnaa.Z
