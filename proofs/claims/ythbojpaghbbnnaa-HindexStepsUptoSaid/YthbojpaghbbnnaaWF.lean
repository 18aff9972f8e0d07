/- What functions compute from plain values: graphOf, GraphChange. Printed by a small program of ours (zgen, zg.py); no condition. -/
import Derived.Test.YthbojpaghbbnnaaZN
import Derived.Test.YthbojpaghbbnnaaZT
import Derived.Test.YthbojpaghbbnnaaZP
import Derived.Test.YthbojpaghbbnnaaZS
import Derived.KernelRfl
namespace Go.Proofs.Ythbojpaghbbnnaa.Z
open Go Go.RowKit
set_option linter.unusedVariables false
set_option linter.unusedSimpArgs false
/-! pith/pithlaw5.graphOf -/
namespace graphOf
abbrev ps : List PM := [.val I64, .val (.list Pr)]
abbrev rs : List PM := [.val (.obj 0)]
noncomputable abbrev code : Code := (Go.Proofs.Try.f33.body.getD .skip)
noncomputable def env : Env := mkEnv tab [(34, PairsO.sig), (105, Make.sig), (44, num5.sig)] 0 [] []
abbrev D : Type := ((Option Gr) × Unit)
noncomputable def run' (n0 : Int) (pairs1 : (List (Int × Int))) : Option D := (if PairsO.pre pairs1 = Bool.true then (if Make.pre n0 (PairsO.fn pairs1).1 = Bool.true then (if num5.pre (Make.fn n0 (PairsO.fn pairs1).1).2.1 = Bool.true then (if ((num5.fn (Make.fn n0 (PairsO.fn pairs1).1).2.1).1 != (0 : Int)) = Bool.true then some (Option.none, ())
 else some ((Make.fn n0 (PairsO.fn pairs1).1).1, ()))
 else none)
 else none)
 else none)
noncomputable def run (d : Ds (List.map PM.ty ps)) : Option (Ds (muts ps ++ List.map PM.ty rs)) := match d with
  | (n0, pairs1, _) => run' n0 pairs1
theorem run_is : ∀ d, runF env 18 code [4] ps rs d = run d := fun d => by kernel_rfl
theorem loops : LoopsOk env code := loopsOk_of (l := []) (by kernel_rfl) (fun p hp => by
  cases hp)
noncomputable def pre (n0 : Int) (pairs1 : (List (Int × Int))) : Bool := (run' n0 pairs1).isSome
noncomputable def fn (n0 : Int) (pairs1 : (List (Int × Int))) : D := match run' n0 pairs1 with
  | some x => x
  | none => default
noncomputable def sig : Sig := ⟨ps, rs, fun d => match d with
  | (n0, pairs1, _) => pre n0 pairs1, fun d => match d with
  | (n0, pairs1, _) => fn n0 pairs1⟩
theorem run_fn (n0 : Int) (pairs1 : (List (Int × Int))) (h : pre n0 pairs1 = true) : run' n0 pairs1 = some (fn n0 pairs1) := by
  unfold pre at h
  unfold fn
  cases e : run' n0 pairs1 with
  | some x => rfl
  | none => rw [e] at h; cases h
theorem is_fn (n0 : Int) (pairs1 : (List (Int × Int))) {x : D} (h : run' n0 pairs1 = some x) : pre n0 pairs1 = true ∧ fn n0 pairs1 = x := by
  unfold pre fn
  rw [h]
  exact ⟨rfl, rfl⟩
theorem sound {ρ : Obs} (hE : EnvOk Go.Proofs.Try.prog ρ env) : Sound Go.Proofs.Try.prog ρ 33 sig := sound_of (fn := Go.Proofs.Try.f33) (c := code) (res := [4]) hE (by kernel_rfl) (by kernel_rfl) (by kernel_rfl) (by kernel_rfl) (by kernel_rfl) loops rfl (show 2 ≤ 18 by decide) (fun d hd => (run_is d).trans (by
  obtain ⟨n0, pairs1, _⟩ := d
  exact run_fn n0 pairs1 hd))
theorem enters : Enters Go.Proofs.Try.prog 33 := enters_of (fn := Go.Proofs.Try.f33) (by kernel_rfl) (by kernel_rfl) (by kernel_rfl)
theorem ok {ρ : Obs} (h : ∀ p ∈ ([(34, PairsO.sig), (105, Make.sig), (44, num5.sig)] : List (FuncId × Sig)), Enters Go.Proofs.Try.prog p.1 ∧ Sound Go.Proofs.Try.prog ρ p.1 p.2) : Enters Go.Proofs.Try.prog 33 ∧ Sound Go.Proofs.Try.prog ρ 33 sig := ⟨enters, sound (envOk_of tabOk h)⟩
theorem okR : Enters Go.Proofs.Try.prog 33 ∧ Sound Go.Proofs.Try.prog rho 33 sig := ok (fun p hp => by
  simp only [List.mem_cons, List.not_mem_nil, or_false] at hp
  rcases hp with rfl | rfl | rfl
  · exact PairsO.okR
  · exact Make.okR
  · exact num5.okR)
end graphOf
/-! pith/pithlaw5.GraphChange -/
namespace GraphChange
abbrev ps : List PM := [.val I64, .val (.list Pr), .val (.pair I64 (.pair I64 .bool))]
abbrev rs : List PM := [.val .bool]
noncomputable abbrev code : Code := (Go.Proofs.Try.f7.body.getD .skip)
abbrev s23 : Shape := ⟨[.un, .un, .un, .un, .un, .box 0 0, .un, .un, .un, .un, .v (.obj 0), .un, .un, .un, .v (.list (.pair I64 I64)), .v I64, .un, .un, .un, .un, .un, .un, .un, .un, .un, .un, .un, .un, .un, .un, .un, .un, .un, .un, .un, .un, .un, .un, .un, .un, .un, .un, .un, .un, .un, .un, .un, .un, .un, .un, .un, .un, .un, .un, .un, .un, .un, .un, .un, .un, .un, .un, .un, .un, .un, .un, .un, .un, .un, .un, .un, .un, .un, .un, .un, .un, .un, .un, .un, .un, .un, .un, .un, .un, .un, .un, .un, .un, .un, .un, .un, .un, .un, .un, .un, .un, .un, .un, .un, .un, .un, .un, .un, .un, .un, .un, .un, .un, .un, .un, .un, .un, .un, .un, .un, .un, .un, .un, .un, .un, .un, .un, .un, .un, .un, .un, .un, .un, .un, .un, .un, .un, .un, .un, .un, .un, .un, .un, .un, .un, .un, .un, .un, .un, .un, .un, .un, .un, .un, .un, .un, .un, .un, .un, .un, .un, .un, .un, .un, .un, .un, .un, .un, .un, .un, .un, .un, .un, .un, .un, .un, .un, .un, .un, .un, .un, .un, .un, .un, .un, .un, .un, .un, .un], [.cells (46 : Nat) [.v I64, .v I64, .v .bool]]⟩
abbrev x23 : List Way := [⟨.rt, ⟨[(6, none)]⟩, ⟨[.un, .un, .un, .un, .un, .un, .v .bool, .un, .un, .un, .un, .un, .un, .un, .un, .un, .un, .un, .un, .un, .un, .un, .un, .un, .un, .un, .un, .un, .un, .un, .un, .un, .un, .un, .un, .un, .un, .un, .un, .un, .un, .un, .un, .un, .un, .un, .un, .un, .un, .un, .un, .un, .un, .un, .un, .un, .un, .un, .un, .un, .un, .un, .un, .un, .un, .un, .un, .un, .un, .un, .un, .un, .un, .un, .un, .un, .un, .un, .un, .un, .un, .un, .un, .un, .un, .un, .un, .un, .un, .un, .un, .un, .un, .un, .un, .un, .un, .un, .un, .un, .un, .un, .un, .un, .un, .un, .un, .un, .un, .un, .un, .un, .un, .un, .un, .un, .un, .un, .un, .un, .un, .un, .un, .un, .un, .un, .un, .un, .un, .un, .un, .un, .un, .un, .un, .un, .un, .un, .un, .un, .un, .un, .un, .un, .un, .un, .un, .un, .un, .un, .un, .un, .un, .un, .un, .un, .un, .un, .un, .un, .un, .un, .un, .un, .un, .un, .un, .un, .un, .un, .un, .un, .un, .un, .un, .un, .un, .un, .un, .un, .un, .un, .un, .un], []⟩⟩, ⟨(.ex 0), ⟨[]⟩, ⟨[.un, .un, .un, .un, .un, .un, .un, .un, .un, .un, .un, .un, .un, .un, .un, .un, .un, .un, .un, .un, .un, .un, .un, .un, .un, .un, .un, .un, .un, .un, .un, .un, .un, .un, .un, .un, .un, .un, .un, .un, .un, .un, .un, .un, .un, .un, .un, .un, .un, .un, .un, .un, .un, .un, .un, .un, .un, .un, .un, .un, .un, .un, .un, .un, .un, .un, .un, .un, .un, .un, .un, .un, .un, .un, .un, .un, .un, .un, .un, .un, .un, .un, .un, .un, .un, .un, .un, .un, .un, .un, .un, .un, .un, .un, .un, .un, .un, .un, .un, .un, .un, .un, .un, .un, .un, .un, .un, .un, .un, .un, .un, .un, .un, .un, .un, .un, .un, .un, .un, .un, .un, .un, .un, .un, .un, .un, .un, .un, .un, .un, .un, .un, .un, .un, .un, .un, .un, .un, .un, .un, .un, .un, .un, .un, .un, .un, .un, .un, .un, .un, .un, .un, .un, .un, .un, .un, .un, .un, .un, .un, .un, .un, .un, .un, .un, .un, .un, .un, .un, .un, .un, .un, .un, .un, .un, .un, .un, .un, .un, .un, .un, .un, .un, .un], []⟩⟩]
abbrev V23 : Type := ((Option Gr) × (List (Int × Int)) × Int × Unit) × ((Int × Int × Bool × Unit) × Unit)
abbrev X23 : Type := ((Bool × Unit) × (Unit)) ⊕ ((Unit) × (Unit))
noncomputable def R23 {R : Type} (h10 : (Option Gr)) (l14 : (List (Int × Int))) (i15 : Int) (c0x0 : Int) (c0x1 : Int) (c0x2 : Bool) (k : V23 → Option R) (kx : X23 → Option R) : Option R := (if Decidable.decide (i15 < (↑(List.length l14) : Int)) = Bool.true then (if (0 : Int) ≤ i15 then (if i15 < (↑(List.length l14) : Int) then (if ((List.getD l14 (Int.toNat i15) ((0 : Int), (0 : Int))).1 == if c0x1 < c0x0 then c0x1 else c0x0) = Bool.true then (if (0 : Int) ≤ i15 then (if i15 < (↑(List.length l14) : Int) then (if (!(List.getD l14 (Int.toNat i15) ((0 : Int), (0 : Int))).2 == if c0x1 > c0x0 then c0x1 else c0x0) = Bool.true then (if (0 : Int) ≤ i15 then (if i15 < (↑(List.length l14) : Int) then (if (0 : Int) ≤ i15 then (if i15 < (↑(List.length l14) : Int) then (if Has.pre h10 (List.getD l14 (Int.toNat i15) ((0 : Int), (0 : Int))).1 (List.getD l14 (Int.toNat i15) ((0 : Int), (0 : Int))).2 = Bool.true then (if (!(Has.fn h10 (List.getD l14 (Int.toNat i15) ((0 : Int), (0 : Int))).1 (List.getD l14 (Int.toNat i15) ((0 : Int), (0 : Int))).2).1) = Bool.true then kx (Sum.inl <| ((Bool.false, ()), (())))
 else k ((h10, l14, IntKind.wrap .i64 (i15 + (1 : Int)), ()), ((c0x0, c0x1, c0x2, ()), ())))
 else none)
 else none)
 else none)
 else none)
 else none)
 else k ((h10, l14, IntKind.wrap .i64 (i15 + (1 : Int)), ()), ((c0x0, c0x1, c0x2, ()), ())))
 else none)
 else none)
 else (if (0 : Int) ≤ i15 then (if i15 < (↑(List.length l14) : Int) then (if (0 : Int) ≤ i15 then (if i15 < (↑(List.length l14) : Int) then (if Has.pre h10 (List.getD l14 (Int.toNat i15) ((0 : Int), (0 : Int))).1 (List.getD l14 (Int.toNat i15) ((0 : Int), (0 : Int))).2 = Bool.true then (if (!(Has.fn h10 (List.getD l14 (Int.toNat i15) ((0 : Int), (0 : Int))).1 (List.getD l14 (Int.toNat i15) ((0 : Int), (0 : Int))).2).1) = Bool.true then kx (Sum.inl <| ((Bool.false, ()), (())))
 else k ((h10, l14, IntKind.wrap .i64 (i15 + (1 : Int)), ()), ((c0x0, c0x1, c0x2, ()), ())))
 else none)
 else none)
 else none)
 else none)
 else none))
 else none)
 else none)
 else kx (Sum.inr <| ((()), (()))))
noncomputable def rd23 : Rd (VO s23) (Xs x23) := fun v k kx => match v with
  | ((h10, l14, i15, _), ((c0x0, c0x1, c0x2, _), _)) => R23 h10 l14 i15 c0x0 c0x1 c0x2 k kx
noncomputable def F23 (h10 : (Option Gr)) (l14 : (List (Int × Int))) (i15 : Int) (c0x0 : Int) (c0x1 : Int) (c0x2 : Bool) : Option X23 := finOf rd23 ((h10, l14, i15, ()), ((c0x0, c0x1, c0x2, ()), ()))
theorem F23_inv {h10 : (Option Gr)} {l14 : (List (Int × Int))} {c0x0 : Int} {c0x1 : Int} {c0x2 : Bool} (I : Int → Prop) (μ : Int → Nat) (Q : X23 → Prop) (h : ∀ (i15 : Int), I i15 → Led (fun (R : Type) (k : V23 → Option R) (kx : X23 → Option R) => R23 h10 l14 i15 c0x0 c0x1 c0x2 k kx) (fun v => ∃ (i15' : Int), v = ((h10, l14, i15', ()), ((c0x0, c0x1, c0x2, ()), ())) ∧ I i15' ∧ μ i15' < μ i15) Q) : ∀ (i15 : Int), I i15 → ∃ z, F23 h10 l14 i15 c0x0 c0x1 c0x2 = some z ∧ Q z := fun i15 hi => by
  refine finOf_inv (V := V23) (X := X23) (rd := rd23) (fun v => ∃ (i15' : Int), v = ((h10, l14, i15', ()), ((c0x0, c0x1, c0x2, ()), ())) ∧ I i15') (fun v => match v with
    | ((h10, l14, i15, _), ((c0x0, c0x1, c0x2, _), _)) => μ i15) Q (fun v hv => ?_) ((h10, l14, i15, ()), ((c0x0, c0x1, c0x2, ()), ())) ⟨i15, rfl, hi⟩
  obtain ⟨i15, rfl, hi⟩ := hv
  refine led_mono (h i15 hi) ?_ (fun _ q => q)
  rintro v ⟨i15', rfl, h1, h2⟩
  exact ⟨⟨i15', rfl, h1⟩, h2⟩
theorem F23_of (C : (Option Gr) → (List (Int × Int)) → Int → Int → Int → Bool → Option X23) (μ : (Option Gr) → (List (Int × Int)) → Int → Int → Int → Bool → Nat) (h : ∀ (h10 : (Option Gr)) (l14 : (List (Int × Int))) (i15 : Int) (c0x0 : Int) (c0x1 : Int) (c0x2 : Bool) (z : X23), C h10 l14 i15 c0x0 c0x1 c0x2 = some z → (∃ (h10' : (Option Gr)) (l14' : (List (Int × Int))) (i15' : Int) (c0x0' : Int) (c0x1' : Int) (c0x2' : Bool), μ h10' l14' i15' c0x0' c0x1' c0x2' < μ h10 l14 i15 c0x0 c0x1 c0x2 ∧ C h10' l14' i15' c0x0' c0x1' c0x2' = some z ∧ ∀ (R : Type) (k : V23 → Option R) (kx : X23 → Option R), R23 h10 l14 i15 c0x0 c0x1 c0x2 k kx = k ((h10', l14', i15', ()), ((c0x0', c0x1', c0x2', ()), ()))) ∨ ∀ (R : Type) (k : V23 → Option R) (kx : X23 → Option R), R23 h10 l14 i15 c0x0 c0x1 c0x2 k kx = kx z) : ∀ (h10 : (Option Gr)) (l14 : (List (Int × Int))) (i15 : Int) (c0x0 : Int) (c0x1 : Int) (c0x2 : Bool)  (z : X23), C h10 l14 i15 c0x0 c0x1 c0x2 = some z → F23 h10 l14 i15 c0x0 c0x1 c0x2 = some z := fun h10 l14 i15 c0x0 c0x1 c0x2 z hz => finOf_of (V := V23) (X := X23) (rd := rd23) (fun v => match v with
    | ((h10, l14, i15, _), ((c0x0, c0x1, c0x2, _), _)) => C h10 l14 i15 c0x0 c0x1 c0x2) (fun v => match v with
    | ((h10, l14, i15, _), ((c0x0, c0x1, c0x2, _), _)) => μ h10 l14 i15 c0x0 c0x1 c0x2) (fun v z hz => by
  obtain ⟨⟨h10, l14, i15, _⟩, ⟨⟨c0x0, c0x1, c0x2, _⟩, _⟩⟩ := v
  rcases h h10 l14 i15 c0x0 c0x1 c0x2 z hz with ⟨h10', l14', i15', c0x0', c0x1', c0x2', h1, h2, h3⟩ | h3
  · exact .inl ⟨((h10', l14', i15', ()), ((c0x0', c0x1', c0x2', ()), ())), h1, h2, h3⟩
  · exact .inr h3) ((h10, l14, i15, ()), ((c0x0, c0x1, c0x2, ()), ())) z hz
noncomputable def L23 : Lp := ⟨23, ⟨[(5, none), (10, none), (14, none), (15, none)]⟩, s23, x23, fun v => match v with
  | ((h10, l14, i15, _), ((c0x0, c0x1, c0x2, _), _)) => F23 h10 l14 i15 c0x0 c0x1 c0x2⟩
theorem ends23 : Ends L23 rd23 := ends_fin (fun v => by
  obtain ⟨⟨h10, l14, i15, _⟩, ⟨⟨c0x0, c0x1, c0x2, _⟩, _⟩⟩ := v
  rfl)
noncomputable def env : Env := mkEnv tab [(31, first5.sig), (32, fine.sig), (33, graphOf.sig), (35, Pairs.sig), (41, Has.sig), (43, Changed.sig), (44, num5.sig), (45, Edges.sig)] 0 [(19, [0, 2, 1, 3, 4, 5, 6, 7, 8, 9, 11, 12, 13, 14, 15, 10, 16, 17, 18, 19, 20, 21, 22]), (25, [0, 1, 2, 3, 4, 5, 6, 7, 8, 9, 10, 11, 12, 13, 14, 15, 16, 17, 18, 19, 20, 21, 22, 23, 24]), (26, [0, 1, 2, 3, 4, 5, 6, 7, 8, 9, 10, 11, 12, 13, 14, 15, 16])] [L23]
theorem round23 : RoundIs env (sub [true, true, true, true, true, true, true, true, true, true, true, true, true, true, true, false, true, false, false] code) L23 rd23 := fun R v k kx => by kernel_rfl
abbrev D : Type := (Bool × Unit)
noncomputable def run' (n0 : Int) (pairs1 : (List (Int × Int))) (c2 : (Int × (Int × Bool))) : Option D := (if first5.pre = Bool.true then (if fine.pre n0 pairs1 = Bool.true then (if (!first5.fn.1) = Bool.false then (if (!(fine.fn n0 pairs1).1) = Bool.true then some (first5.fn.1, ())
 else (if graphOf.pre n0 pairs1 = Bool.true then (if Option.isNone (graphOf.fn n0 pairs1).1 = Bool.true then some (Bool.false, ())
 else (if Changed.pre (graphOf.fn n0 pairs1).1 [(c2.1, c2.2.1, c2.2.2)] = Bool.true then (if Decidable.decide (c2.1 < (0 : Int)) = Bool.false then (if Decidable.decide (c2.1 ≥ n0) = Bool.false then (if Decidable.decide (c2.2.1 < (0 : Int)) = Bool.false then (if Decidable.decide (c2.2.1 ≥ n0) = Bool.true then (if Option.isNone (Changed.fn (graphOf.fn n0 pairs1).1 [(c2.1, c2.2.1, c2.2.2)]).1 = Bool.true then (if num5.pre (Changed.fn (graphOf.fn n0 pairs1).1 [(c2.1, c2.2.1, c2.2.2)]).2.1 = Bool.true then some ((num5.fn (Changed.fn (graphOf.fn n0 pairs1).1 [(c2.1, c2.2.1, c2.2.2)]).2.1).1 == (42 : Int), ())
 else none)
 else some (Bool.false, ()))
 else (if Option.isNone (Changed.fn (graphOf.fn n0 pairs1).1 [(c2.1, c2.2.1, c2.2.2)]).1 = Bool.false then (if num5.pre (Changed.fn (graphOf.fn n0 pairs1).1 [(c2.1, c2.2.1, c2.2.2)]).2.1 = Bool.true then (if ((num5.fn (Changed.fn (graphOf.fn n0 pairs1).1 [(c2.1, c2.2.1, c2.2.2)]).2.1).1 != (0 : Int)) = Bool.true then some (Bool.false, ())
 else (if Has.pre (graphOf.fn n0 pairs1).1 c2.1 c2.2.1 = Bool.true then (if Edges.pre (graphOf.fn n0 pairs1).1 = Bool.true then (if (c2.1 != c2.2.1) = Bool.true then (if (Has.fn (graphOf.fn n0 pairs1).1 c2.1 c2.2.1).1 = Bool.true then (if c2.2.2 = Bool.true then (if (c2.1 != c2.2.1) = Bool.true then (if (!(Has.fn (graphOf.fn n0 pairs1).1 c2.1 c2.2.1).1) = Bool.true then (if (!c2.2.2) = Bool.true then (if Edges.pre (Changed.fn (graphOf.fn n0 pairs1).1 [(c2.1, c2.2.1, c2.2.2)]).1 = Bool.true then (if ((Edges.fn (Changed.fn (graphOf.fn n0 pairs1).1 [(c2.1, c2.2.1, c2.2.2)]).1).1 != IntKind.wrap .i64 (IntKind.wrap .i64 ((Edges.fn (graphOf.fn n0 pairs1).1).1 - (1 : Int)) + (1 : Int))) = Bool.false then (if Has.pre (Changed.fn (graphOf.fn n0 pairs1).1 [(c2.1, c2.2.1, c2.2.2)]).1 c2.1 c2.2.1 = Bool.true then (if (c2.1 != c2.2.1) = Bool.true then (if (!(Has.fn (Changed.fn (graphOf.fn n0 pairs1).1 [(c2.1, c2.2.1, c2.2.2)]).1 c2.1 c2.2.1).1 == !c2.2.2) = Bool.true then some (Bool.false, ())
 else (if Pairs.pre (graphOf.fn n0 pairs1).1 = Bool.true then (match F23 ((Changed.fn (graphOf.fn n0 pairs1).1 [(c2.1, c2.2.1, c2.2.2)]).1) ((Pairs.fn (graphOf.fn n0 pairs1).1).1) ((0 : Int)) (c2.1) (c2.2.1) (c2.2.2) with
  | some (Sum.inl <| ((t6_1, _), _)) => some (t6_1, ())
  | some (Sum.inr <| (_, _)) => some (Bool.true, ())
  | none => none)
 else none))
 else (if (!(Has.fn (Changed.fn (graphOf.fn n0 pairs1).1 [(c2.1, c2.2.1, c2.2.2)]).1 c2.1 c2.2.1).1 == Bool.false) = Bool.true then some (Bool.false, ())
 else (if Pairs.pre (graphOf.fn n0 pairs1).1 = Bool.true then (match F23 ((Changed.fn (graphOf.fn n0 pairs1).1 [(c2.1, c2.2.1, c2.2.2)]).1) ((Pairs.fn (graphOf.fn n0 pairs1).1).1) ((0 : Int)) (c2.1) (c2.2.1) (c2.2.2) with
  | some (Sum.inl <| ((t6_3, _), _)) => some (t6_3, ())
  | some (Sum.inr <| (_, _)) => some (Bool.true, ())
  | none => none)
 else none)))
 else none)
 else some (Bool.false, ()))
 else none)
 else (if Edges.pre (Changed.fn (graphOf.fn n0 pairs1).1 [(c2.1, c2.2.1, c2.2.2)]).1 = Bool.true then (if ((Edges.fn (Changed.fn (graphOf.fn n0 pairs1).1 [(c2.1, c2.2.1, c2.2.2)]).1).1 != IntKind.wrap .i64 ((Edges.fn (graphOf.fn n0 pairs1).1).1 - (1 : Int))) = Bool.false then (if Has.pre (Changed.fn (graphOf.fn n0 pairs1).1 [(c2.1, c2.2.1, c2.2.2)]).1 c2.1 c2.2.1 = Bool.true then (if (c2.1 != c2.2.1) = Bool.true then (if (!(Has.fn (Changed.fn (graphOf.fn n0 pairs1).1 [(c2.1, c2.2.1, c2.2.2)]).1 c2.1 c2.2.1).1 == !c2.2.2) = Bool.true then some (Bool.false, ())
 else (if Pairs.pre (graphOf.fn n0 pairs1).1 = Bool.true then (match F23 ((Changed.fn (graphOf.fn n0 pairs1).1 [(c2.1, c2.2.1, c2.2.2)]).1) ((Pairs.fn (graphOf.fn n0 pairs1).1).1) ((0 : Int)) (c2.1) (c2.2.1) (c2.2.2) with
  | some (Sum.inl <| ((t6_5, _), _)) => some (t6_5, ())
  | some (Sum.inr <| (_, _)) => some (Bool.true, ())
  | none => none)
 else none))
 else (if (!(Has.fn (Changed.fn (graphOf.fn n0 pairs1).1 [(c2.1, c2.2.1, c2.2.2)]).1 c2.1 c2.2.1).1 == Bool.false) = Bool.true then some (Bool.false, ())
 else (if Pairs.pre (graphOf.fn n0 pairs1).1 = Bool.true then (match F23 ((Changed.fn (graphOf.fn n0 pairs1).1 [(c2.1, c2.2.1, c2.2.2)]).1) ((Pairs.fn (graphOf.fn n0 pairs1).1).1) ((0 : Int)) (c2.1) (c2.2.1) (c2.2.2) with
  | some (Sum.inl <| ((t6_7, _), _)) => some (t6_7, ())
  | some (Sum.inr <| (_, _)) => some (Bool.true, ())
  | none => none)
 else none)))
 else none)
 else some (Bool.false, ()))
 else none))
 else (if Edges.pre (Changed.fn (graphOf.fn n0 pairs1).1 [(c2.1, c2.2.1, c2.2.2)]).1 = Bool.true then (if ((Edges.fn (Changed.fn (graphOf.fn n0 pairs1).1 [(c2.1, c2.2.1, c2.2.2)]).1).1 != IntKind.wrap .i64 ((Edges.fn (graphOf.fn n0 pairs1).1).1 - (1 : Int))) = Bool.false then (if Has.pre (Changed.fn (graphOf.fn n0 pairs1).1 [(c2.1, c2.2.1, c2.2.2)]).1 c2.1 c2.2.1 = Bool.true then (if (c2.1 != c2.2.1) = Bool.true then (if (!(Has.fn (Changed.fn (graphOf.fn n0 pairs1).1 [(c2.1, c2.2.1, c2.2.2)]).1 c2.1 c2.2.1).1 == !c2.2.2) = Bool.true then some (Bool.false, ())
 else (if Pairs.pre (graphOf.fn n0 pairs1).1 = Bool.true then (match F23 ((Changed.fn (graphOf.fn n0 pairs1).1 [(c2.1, c2.2.1, c2.2.2)]).1) ((Pairs.fn (graphOf.fn n0 pairs1).1).1) ((0 : Int)) (c2.1) (c2.2.1) (c2.2.2) with
  | some (Sum.inl <| ((t6_9, _), _)) => some (t6_9, ())
  | some (Sum.inr <| (_, _)) => some (Bool.true, ())
  | none => none)
 else none))
 else (if (!(Has.fn (Changed.fn (graphOf.fn n0 pairs1).1 [(c2.1, c2.2.1, c2.2.2)]).1 c2.1 c2.2.1).1 == Bool.false) = Bool.true then some (Bool.false, ())
 else (if Pairs.pre (graphOf.fn n0 pairs1).1 = Bool.true then (match F23 ((Changed.fn (graphOf.fn n0 pairs1).1 [(c2.1, c2.2.1, c2.2.2)]).1) ((Pairs.fn (graphOf.fn n0 pairs1).1).1) ((0 : Int)) (c2.1) (c2.2.1) (c2.2.2) with
  | some (Sum.inl <| ((t6_11, _), _)) => some (t6_11, ())
  | some (Sum.inr <| (_, _)) => some (Bool.true, ())
  | none => none)
 else none)))
 else none)
 else some (Bool.false, ()))
 else none))
 else (if Edges.pre (Changed.fn (graphOf.fn n0 pairs1).1 [(c2.1, c2.2.1, c2.2.2)]).1 = Bool.true then (if ((Edges.fn (Changed.fn (graphOf.fn n0 pairs1).1 [(c2.1, c2.2.1, c2.2.2)]).1).1 != IntKind.wrap .i64 ((Edges.fn (graphOf.fn n0 pairs1).1).1 - (1 : Int))) = Bool.false then (if Has.pre (Changed.fn (graphOf.fn n0 pairs1).1 [(c2.1, c2.2.1, c2.2.2)]).1 c2.1 c2.2.1 = Bool.true then (if (c2.1 != c2.2.1) = Bool.true then (if (!(Has.fn (Changed.fn (graphOf.fn n0 pairs1).1 [(c2.1, c2.2.1, c2.2.2)]).1 c2.1 c2.2.1).1 == !c2.2.2) = Bool.true then some (Bool.false, ())
 else (if Pairs.pre (graphOf.fn n0 pairs1).1 = Bool.true then (match F23 ((Changed.fn (graphOf.fn n0 pairs1).1 [(c2.1, c2.2.1, c2.2.2)]).1) ((Pairs.fn (graphOf.fn n0 pairs1).1).1) ((0 : Int)) (c2.1) (c2.2.1) (c2.2.2) with
  | some (Sum.inl <| ((t6_13, _), _)) => some (t6_13, ())
  | some (Sum.inr <| (_, _)) => some (Bool.true, ())
  | none => none)
 else none))
 else (if (!(Has.fn (Changed.fn (graphOf.fn n0 pairs1).1 [(c2.1, c2.2.1, c2.2.2)]).1 c2.1 c2.2.1).1 == Bool.false) = Bool.true then some (Bool.false, ())
 else (if Pairs.pre (graphOf.fn n0 pairs1).1 = Bool.true then (match F23 ((Changed.fn (graphOf.fn n0 pairs1).1 [(c2.1, c2.2.1, c2.2.2)]).1) ((Pairs.fn (graphOf.fn n0 pairs1).1).1) ((0 : Int)) (c2.1) (c2.2.1) (c2.2.2) with
  | some (Sum.inl <| ((t6_15, _), _)) => some (t6_15, ())
  | some (Sum.inr <| (_, _)) => some (Bool.true, ())
  | none => none)
 else none)))
 else none)
 else some (Bool.false, ()))
 else none))
 else (if (c2.1 != c2.2.1) = Bool.true then (if (!(Has.fn (graphOf.fn n0 pairs1).1 c2.1 c2.2.1).1) = Bool.true then (if (!c2.2.2) = Bool.true then (if Edges.pre (Changed.fn (graphOf.fn n0 pairs1).1 [(c2.1, c2.2.1, c2.2.2)]).1 = Bool.true then (if ((Edges.fn (Changed.fn (graphOf.fn n0 pairs1).1 [(c2.1, c2.2.1, c2.2.2)]).1).1 != IntKind.wrap .i64 ((Edges.fn (graphOf.fn n0 pairs1).1).1 + (1 : Int))) = Bool.false then (if Has.pre (Changed.fn (graphOf.fn n0 pairs1).1 [(c2.1, c2.2.1, c2.2.2)]).1 c2.1 c2.2.1 = Bool.true then (if (c2.1 != c2.2.1) = Bool.true then (if (!(Has.fn (Changed.fn (graphOf.fn n0 pairs1).1 [(c2.1, c2.2.1, c2.2.2)]).1 c2.1 c2.2.1).1 == !c2.2.2) = Bool.true then some (Bool.false, ())
 else (if Pairs.pre (graphOf.fn n0 pairs1).1 = Bool.true then (match F23 ((Changed.fn (graphOf.fn n0 pairs1).1 [(c2.1, c2.2.1, c2.2.2)]).1) ((Pairs.fn (graphOf.fn n0 pairs1).1).1) ((0 : Int)) (c2.1) (c2.2.1) (c2.2.2) with
  | some (Sum.inl <| ((t6_17, _), _)) => some (t6_17, ())
  | some (Sum.inr <| (_, _)) => some (Bool.true, ())
  | none => none)
 else none))
 else (if (!(Has.fn (Changed.fn (graphOf.fn n0 pairs1).1 [(c2.1, c2.2.1, c2.2.2)]).1 c2.1 c2.2.1).1 == Bool.false) = Bool.true then some (Bool.false, ())
 else (if Pairs.pre (graphOf.fn n0 pairs1).1 = Bool.true then (match F23 ((Changed.fn (graphOf.fn n0 pairs1).1 [(c2.1, c2.2.1, c2.2.2)]).1) ((Pairs.fn (graphOf.fn n0 pairs1).1).1) ((0 : Int)) (c2.1) (c2.2.1) (c2.2.2) with
  | some (Sum.inl <| ((t6_19, _), _)) => some (t6_19, ())
  | some (Sum.inr <| (_, _)) => some (Bool.true, ())
  | none => none)
 else none)))
 else none)
 else some (Bool.false, ()))
 else none)
 else (if Edges.pre (Changed.fn (graphOf.fn n0 pairs1).1 [(c2.1, c2.2.1, c2.2.2)]).1 = Bool.true then (if ((Edges.fn (Changed.fn (graphOf.fn n0 pairs1).1 [(c2.1, c2.2.1, c2.2.2)]).1).1 != (Edges.fn (graphOf.fn n0 pairs1).1).1) = Bool.false then (if Has.pre (Changed.fn (graphOf.fn n0 pairs1).1 [(c2.1, c2.2.1, c2.2.2)]).1 c2.1 c2.2.1 = Bool.true then (if (c2.1 != c2.2.1) = Bool.true then (if (!(Has.fn (Changed.fn (graphOf.fn n0 pairs1).1 [(c2.1, c2.2.1, c2.2.2)]).1 c2.1 c2.2.1).1 == !c2.2.2) = Bool.true then some (Bool.false, ())
 else (if Pairs.pre (graphOf.fn n0 pairs1).1 = Bool.true then (match F23 ((Changed.fn (graphOf.fn n0 pairs1).1 [(c2.1, c2.2.1, c2.2.2)]).1) ((Pairs.fn (graphOf.fn n0 pairs1).1).1) ((0 : Int)) (c2.1) (c2.2.1) (c2.2.2) with
  | some (Sum.inl <| ((t6_21, _), _)) => some (t6_21, ())
  | some (Sum.inr <| (_, _)) => some (Bool.true, ())
  | none => none)
 else none))
 else (if (!(Has.fn (Changed.fn (graphOf.fn n0 pairs1).1 [(c2.1, c2.2.1, c2.2.2)]).1 c2.1 c2.2.1).1 == Bool.false) = Bool.true then some (Bool.false, ())
 else (if Pairs.pre (graphOf.fn n0 pairs1).1 = Bool.true then (match F23 ((Changed.fn (graphOf.fn n0 pairs1).1 [(c2.1, c2.2.1, c2.2.2)]).1) ((Pairs.fn (graphOf.fn n0 pairs1).1).1) ((0 : Int)) (c2.1) (c2.2.1) (c2.2.2) with
  | some (Sum.inl <| ((t6_23, _), _)) => some (t6_23, ())
  | some (Sum.inr <| (_, _)) => some (Bool.true, ())
  | none => none)
 else none)))
 else none)
 else some (Bool.false, ()))
 else none))
 else (if Edges.pre (Changed.fn (graphOf.fn n0 pairs1).1 [(c2.1, c2.2.1, c2.2.2)]).1 = Bool.true then (if ((Edges.fn (Changed.fn (graphOf.fn n0 pairs1).1 [(c2.1, c2.2.1, c2.2.2)]).1).1 != (Edges.fn (graphOf.fn n0 pairs1).1).1) = Bool.false then (if Has.pre (Changed.fn (graphOf.fn n0 pairs1).1 [(c2.1, c2.2.1, c2.2.2)]).1 c2.1 c2.2.1 = Bool.true then (if (c2.1 != c2.2.1) = Bool.true then (if (!(Has.fn (Changed.fn (graphOf.fn n0 pairs1).1 [(c2.1, c2.2.1, c2.2.2)]).1 c2.1 c2.2.1).1 == !c2.2.2) = Bool.true then some (Bool.false, ())
 else (if Pairs.pre (graphOf.fn n0 pairs1).1 = Bool.true then (match F23 ((Changed.fn (graphOf.fn n0 pairs1).1 [(c2.1, c2.2.1, c2.2.2)]).1) ((Pairs.fn (graphOf.fn n0 pairs1).1).1) ((0 : Int)) (c2.1) (c2.2.1) (c2.2.2) with
  | some (Sum.inl <| ((t6_25, _), _)) => some (t6_25, ())
  | some (Sum.inr <| (_, _)) => some (Bool.true, ())
  | none => none)
 else none))
 else (if (!(Has.fn (Changed.fn (graphOf.fn n0 pairs1).1 [(c2.1, c2.2.1, c2.2.2)]).1 c2.1 c2.2.1).1 == Bool.false) = Bool.true then some (Bool.false, ())
 else (if Pairs.pre (graphOf.fn n0 pairs1).1 = Bool.true then (match F23 ((Changed.fn (graphOf.fn n0 pairs1).1 [(c2.1, c2.2.1, c2.2.2)]).1) ((Pairs.fn (graphOf.fn n0 pairs1).1).1) ((0 : Int)) (c2.1) (c2.2.1) (c2.2.2) with
  | some (Sum.inl <| ((t6_27, _), _)) => some (t6_27, ())
  | some (Sum.inr <| (_, _)) => some (Bool.true, ())
  | none => none)
 else none)))
 else none)
 else some (Bool.false, ()))
 else none))
 else (if Edges.pre (Changed.fn (graphOf.fn n0 pairs1).1 [(c2.1, c2.2.1, c2.2.2)]).1 = Bool.true then (if ((Edges.fn (Changed.fn (graphOf.fn n0 pairs1).1 [(c2.1, c2.2.1, c2.2.2)]).1).1 != (Edges.fn (graphOf.fn n0 pairs1).1).1) = Bool.false then (if Has.pre (Changed.fn (graphOf.fn n0 pairs1).1 [(c2.1, c2.2.1, c2.2.2)]).1 c2.1 c2.2.1 = Bool.true then (if (c2.1 != c2.2.1) = Bool.true then (if (!(Has.fn (Changed.fn (graphOf.fn n0 pairs1).1 [(c2.1, c2.2.1, c2.2.2)]).1 c2.1 c2.2.1).1 == !c2.2.2) = Bool.true then some (Bool.false, ())
 else (if Pairs.pre (graphOf.fn n0 pairs1).1 = Bool.true then (match F23 ((Changed.fn (graphOf.fn n0 pairs1).1 [(c2.1, c2.2.1, c2.2.2)]).1) ((Pairs.fn (graphOf.fn n0 pairs1).1).1) ((0 : Int)) (c2.1) (c2.2.1) (c2.2.2) with
  | some (Sum.inl <| ((t6_29, _), _)) => some (t6_29, ())
  | some (Sum.inr <| (_, _)) => some (Bool.true, ())
  | none => none)
 else none))
 else (if (!(Has.fn (Changed.fn (graphOf.fn n0 pairs1).1 [(c2.1, c2.2.1, c2.2.2)]).1 c2.1 c2.2.1).1 == Bool.false) = Bool.true then some (Bool.false, ())
 else (if Pairs.pre (graphOf.fn n0 pairs1).1 = Bool.true then (match F23 ((Changed.fn (graphOf.fn n0 pairs1).1 [(c2.1, c2.2.1, c2.2.2)]).1) ((Pairs.fn (graphOf.fn n0 pairs1).1).1) ((0 : Int)) (c2.1) (c2.2.1) (c2.2.2) with
  | some (Sum.inl <| ((t6_31, _), _)) => some (t6_31, ())
  | some (Sum.inr <| (_, _)) => some (Bool.true, ())
  | none => none)
 else none)))
 else none)
 else some (Bool.false, ()))
 else none)))
 else (if (c2.1 != c2.2.1) = Bool.true then (if (!(Has.fn (graphOf.fn n0 pairs1).1 c2.1 c2.2.1).1) = Bool.true then (if (!c2.2.2) = Bool.true then (if Edges.pre (Changed.fn (graphOf.fn n0 pairs1).1 [(c2.1, c2.2.1, c2.2.2)]).1 = Bool.true then (if ((Edges.fn (Changed.fn (graphOf.fn n0 pairs1).1 [(c2.1, c2.2.1, c2.2.2)]).1).1 != IntKind.wrap .i64 ((Edges.fn (graphOf.fn n0 pairs1).1).1 + (1 : Int))) = Bool.false then (if Has.pre (Changed.fn (graphOf.fn n0 pairs1).1 [(c2.1, c2.2.1, c2.2.2)]).1 c2.1 c2.2.1 = Bool.true then (if (c2.1 != c2.2.1) = Bool.true then (if (!(Has.fn (Changed.fn (graphOf.fn n0 pairs1).1 [(c2.1, c2.2.1, c2.2.2)]).1 c2.1 c2.2.1).1 == !c2.2.2) = Bool.true then some (Bool.false, ())
 else (if Pairs.pre (graphOf.fn n0 pairs1).1 = Bool.true then (match F23 ((Changed.fn (graphOf.fn n0 pairs1).1 [(c2.1, c2.2.1, c2.2.2)]).1) ((Pairs.fn (graphOf.fn n0 pairs1).1).1) ((0 : Int)) (c2.1) (c2.2.1) (c2.2.2) with
  | some (Sum.inl <| ((t6_33, _), _)) => some (t6_33, ())
  | some (Sum.inr <| (_, _)) => some (Bool.true, ())
  | none => none)
 else none))
 else (if (!(Has.fn (Changed.fn (graphOf.fn n0 pairs1).1 [(c2.1, c2.2.1, c2.2.2)]).1 c2.1 c2.2.1).1 == Bool.false) = Bool.true then some (Bool.false, ())
 else (if Pairs.pre (graphOf.fn n0 pairs1).1 = Bool.true then (match F23 ((Changed.fn (graphOf.fn n0 pairs1).1 [(c2.1, c2.2.1, c2.2.2)]).1) ((Pairs.fn (graphOf.fn n0 pairs1).1).1) ((0 : Int)) (c2.1) (c2.2.1) (c2.2.2) with
  | some (Sum.inl <| ((t6_35, _), _)) => some (t6_35, ())
  | some (Sum.inr <| (_, _)) => some (Bool.true, ())
  | none => none)
 else none)))
 else none)
 else some (Bool.false, ()))
 else none)
 else (if Edges.pre (Changed.fn (graphOf.fn n0 pairs1).1 [(c2.1, c2.2.1, c2.2.2)]).1 = Bool.true then (if ((Edges.fn (Changed.fn (graphOf.fn n0 pairs1).1 [(c2.1, c2.2.1, c2.2.2)]).1).1 != (Edges.fn (graphOf.fn n0 pairs1).1).1) = Bool.false then (if Has.pre (Changed.fn (graphOf.fn n0 pairs1).1 [(c2.1, c2.2.1, c2.2.2)]).1 c2.1 c2.2.1 = Bool.true then (if (c2.1 != c2.2.1) = Bool.true then (if (!(Has.fn (Changed.fn (graphOf.fn n0 pairs1).1 [(c2.1, c2.2.1, c2.2.2)]).1 c2.1 c2.2.1).1 == !c2.2.2) = Bool.true then some (Bool.false, ())
 else (if Pairs.pre (graphOf.fn n0 pairs1).1 = Bool.true then (match F23 ((Changed.fn (graphOf.fn n0 pairs1).1 [(c2.1, c2.2.1, c2.2.2)]).1) ((Pairs.fn (graphOf.fn n0 pairs1).1).1) ((0 : Int)) (c2.1) (c2.2.1) (c2.2.2) with
  | some (Sum.inl <| ((t6_37, _), _)) => some (t6_37, ())
  | some (Sum.inr <| (_, _)) => some (Bool.true, ())
  | none => none)
 else none))
 else (if (!(Has.fn (Changed.fn (graphOf.fn n0 pairs1).1 [(c2.1, c2.2.1, c2.2.2)]).1 c2.1 c2.2.1).1 == Bool.false) = Bool.true then some (Bool.false, ())
 else (if Pairs.pre (graphOf.fn n0 pairs1).1 = Bool.true then (match F23 ((Changed.fn (graphOf.fn n0 pairs1).1 [(c2.1, c2.2.1, c2.2.2)]).1) ((Pairs.fn (graphOf.fn n0 pairs1).1).1) ((0 : Int)) (c2.1) (c2.2.1) (c2.2.2) with
  | some (Sum.inl <| ((t6_39, _), _)) => some (t6_39, ())
  | some (Sum.inr <| (_, _)) => some (Bool.true, ())
  | none => none)
 else none)))
 else none)
 else some (Bool.false, ()))
 else none))
 else (if Edges.pre (Changed.fn (graphOf.fn n0 pairs1).1 [(c2.1, c2.2.1, c2.2.2)]).1 = Bool.true then (if ((Edges.fn (Changed.fn (graphOf.fn n0 pairs1).1 [(c2.1, c2.2.1, c2.2.2)]).1).1 != (Edges.fn (graphOf.fn n0 pairs1).1).1) = Bool.false then (if Has.pre (Changed.fn (graphOf.fn n0 pairs1).1 [(c2.1, c2.2.1, c2.2.2)]).1 c2.1 c2.2.1 = Bool.true then (if (c2.1 != c2.2.1) = Bool.true then (if (!(Has.fn (Changed.fn (graphOf.fn n0 pairs1).1 [(c2.1, c2.2.1, c2.2.2)]).1 c2.1 c2.2.1).1 == !c2.2.2) = Bool.true then some (Bool.false, ())
 else (if Pairs.pre (graphOf.fn n0 pairs1).1 = Bool.true then (match F23 ((Changed.fn (graphOf.fn n0 pairs1).1 [(c2.1, c2.2.1, c2.2.2)]).1) ((Pairs.fn (graphOf.fn n0 pairs1).1).1) ((0 : Int)) (c2.1) (c2.2.1) (c2.2.2) with
  | some (Sum.inl <| ((t6_41, _), _)) => some (t6_41, ())
  | some (Sum.inr <| (_, _)) => some (Bool.true, ())
  | none => none)
 else none))
 else (if (!(Has.fn (Changed.fn (graphOf.fn n0 pairs1).1 [(c2.1, c2.2.1, c2.2.2)]).1 c2.1 c2.2.1).1 == Bool.false) = Bool.true then some (Bool.false, ())
 else (if Pairs.pre (graphOf.fn n0 pairs1).1 = Bool.true then (match F23 ((Changed.fn (graphOf.fn n0 pairs1).1 [(c2.1, c2.2.1, c2.2.2)]).1) ((Pairs.fn (graphOf.fn n0 pairs1).1).1) ((0 : Int)) (c2.1) (c2.2.1) (c2.2.2) with
  | some (Sum.inl <| ((t6_43, _), _)) => some (t6_43, ())
  | some (Sum.inr <| (_, _)) => some (Bool.true, ())
  | none => none)
 else none)))
 else none)
 else some (Bool.false, ()))
 else none))
 else (if Edges.pre (Changed.fn (graphOf.fn n0 pairs1).1 [(c2.1, c2.2.1, c2.2.2)]).1 = Bool.true then (if ((Edges.fn (Changed.fn (graphOf.fn n0 pairs1).1 [(c2.1, c2.2.1, c2.2.2)]).1).1 != (Edges.fn (graphOf.fn n0 pairs1).1).1) = Bool.false then (if Has.pre (Changed.fn (graphOf.fn n0 pairs1).1 [(c2.1, c2.2.1, c2.2.2)]).1 c2.1 c2.2.1 = Bool.true then (if (c2.1 != c2.2.1) = Bool.true then (if (!(Has.fn (Changed.fn (graphOf.fn n0 pairs1).1 [(c2.1, c2.2.1, c2.2.2)]).1 c2.1 c2.2.1).1 == !c2.2.2) = Bool.true then some (Bool.false, ())
 else (if Pairs.pre (graphOf.fn n0 pairs1).1 = Bool.true then (match F23 ((Changed.fn (graphOf.fn n0 pairs1).1 [(c2.1, c2.2.1, c2.2.2)]).1) ((Pairs.fn (graphOf.fn n0 pairs1).1).1) ((0 : Int)) (c2.1) (c2.2.1) (c2.2.2) with
  | some (Sum.inl <| ((t6_45, _), _)) => some (t6_45, ())
  | some (Sum.inr <| (_, _)) => some (Bool.true, ())
  | none => none)
 else none))
 else (if (!(Has.fn (Changed.fn (graphOf.fn n0 pairs1).1 [(c2.1, c2.2.1, c2.2.2)]).1 c2.1 c2.2.1).1 == Bool.false) = Bool.true then some (Bool.false, ())
 else (if Pairs.pre (graphOf.fn n0 pairs1).1 = Bool.true then (match F23 ((Changed.fn (graphOf.fn n0 pairs1).1 [(c2.1, c2.2.1, c2.2.2)]).1) ((Pairs.fn (graphOf.fn n0 pairs1).1).1) ((0 : Int)) (c2.1) (c2.2.1) (c2.2.2) with
  | some (Sum.inl <| ((t6_47, _), _)) => some (t6_47, ())
  | some (Sum.inr <| (_, _)) => some (Bool.true, ())
  | none => none)
 else none)))
 else none)
 else some (Bool.false, ()))
 else none)))
 else (if (c2.1 != c2.2.1) = Bool.true then (if (!(Has.fn (graphOf.fn n0 pairs1).1 c2.1 c2.2.1).1) = Bool.true then (if (!c2.2.2) = Bool.true then (if Edges.pre (Changed.fn (graphOf.fn n0 pairs1).1 [(c2.1, c2.2.1, c2.2.2)]).1 = Bool.true then (if ((Edges.fn (Changed.fn (graphOf.fn n0 pairs1).1 [(c2.1, c2.2.1, c2.2.2)]).1).1 != IntKind.wrap .i64 ((Edges.fn (graphOf.fn n0 pairs1).1).1 + (1 : Int))) = Bool.false then (if Has.pre (Changed.fn (graphOf.fn n0 pairs1).1 [(c2.1, c2.2.1, c2.2.2)]).1 c2.1 c2.2.1 = Bool.true then (if (c2.1 != c2.2.1) = Bool.true then (if (!(Has.fn (Changed.fn (graphOf.fn n0 pairs1).1 [(c2.1, c2.2.1, c2.2.2)]).1 c2.1 c2.2.1).1 == !c2.2.2) = Bool.true then some (Bool.false, ())
 else (if Pairs.pre (graphOf.fn n0 pairs1).1 = Bool.true then (match F23 ((Changed.fn (graphOf.fn n0 pairs1).1 [(c2.1, c2.2.1, c2.2.2)]).1) ((Pairs.fn (graphOf.fn n0 pairs1).1).1) ((0 : Int)) (c2.1) (c2.2.1) (c2.2.2) with
  | some (Sum.inl <| ((t6_49, _), _)) => some (t6_49, ())
  | some (Sum.inr <| (_, _)) => some (Bool.true, ())
  | none => none)
 else none))
 else (if (!(Has.fn (Changed.fn (graphOf.fn n0 pairs1).1 [(c2.1, c2.2.1, c2.2.2)]).1 c2.1 c2.2.1).1 == Bool.false) = Bool.true then some (Bool.false, ())
 else (if Pairs.pre (graphOf.fn n0 pairs1).1 = Bool.true then (match F23 ((Changed.fn (graphOf.fn n0 pairs1).1 [(c2.1, c2.2.1, c2.2.2)]).1) ((Pairs.fn (graphOf.fn n0 pairs1).1).1) ((0 : Int)) (c2.1) (c2.2.1) (c2.2.2) with
  | some (Sum.inl <| ((t6_51, _), _)) => some (t6_51, ())
  | some (Sum.inr <| (_, _)) => some (Bool.true, ())
  | none => none)
 else none)))
 else none)
 else some (Bool.false, ()))
 else none)
 else (if Edges.pre (Changed.fn (graphOf.fn n0 pairs1).1 [(c2.1, c2.2.1, c2.2.2)]).1 = Bool.true then (if ((Edges.fn (Changed.fn (graphOf.fn n0 pairs1).1 [(c2.1, c2.2.1, c2.2.2)]).1).1 != (Edges.fn (graphOf.fn n0 pairs1).1).1) = Bool.false then (if Has.pre (Changed.fn (graphOf.fn n0 pairs1).1 [(c2.1, c2.2.1, c2.2.2)]).1 c2.1 c2.2.1 = Bool.true then (if (c2.1 != c2.2.1) = Bool.true then (if (!(Has.fn (Changed.fn (graphOf.fn n0 pairs1).1 [(c2.1, c2.2.1, c2.2.2)]).1 c2.1 c2.2.1).1 == !c2.2.2) = Bool.true then some (Bool.false, ())
 else (if Pairs.pre (graphOf.fn n0 pairs1).1 = Bool.true then (match F23 ((Changed.fn (graphOf.fn n0 pairs1).1 [(c2.1, c2.2.1, c2.2.2)]).1) ((Pairs.fn (graphOf.fn n0 pairs1).1).1) ((0 : Int)) (c2.1) (c2.2.1) (c2.2.2) with
  | some (Sum.inl <| ((t6_53, _), _)) => some (t6_53, ())
  | some (Sum.inr <| (_, _)) => some (Bool.true, ())
  | none => none)
 else none))
 else (if (!(Has.fn (Changed.fn (graphOf.fn n0 pairs1).1 [(c2.1, c2.2.1, c2.2.2)]).1 c2.1 c2.2.1).1 == Bool.false) = Bool.true then some (Bool.false, ())
 else (if Pairs.pre (graphOf.fn n0 pairs1).1 = Bool.true then (match F23 ((Changed.fn (graphOf.fn n0 pairs1).1 [(c2.1, c2.2.1, c2.2.2)]).1) ((Pairs.fn (graphOf.fn n0 pairs1).1).1) ((0 : Int)) (c2.1) (c2.2.1) (c2.2.2) with
  | some (Sum.inl <| ((t6_55, _), _)) => some (t6_55, ())
  | some (Sum.inr <| (_, _)) => some (Bool.true, ())
  | none => none)
 else none)))
 else none)
 else some (Bool.false, ()))
 else none))
 else (if Edges.pre (Changed.fn (graphOf.fn n0 pairs1).1 [(c2.1, c2.2.1, c2.2.2)]).1 = Bool.true then (if ((Edges.fn (Changed.fn (graphOf.fn n0 pairs1).1 [(c2.1, c2.2.1, c2.2.2)]).1).1 != (Edges.fn (graphOf.fn n0 pairs1).1).1) = Bool.false then (if Has.pre (Changed.fn (graphOf.fn n0 pairs1).1 [(c2.1, c2.2.1, c2.2.2)]).1 c2.1 c2.2.1 = Bool.true then (if (c2.1 != c2.2.1) = Bool.true then (if (!(Has.fn (Changed.fn (graphOf.fn n0 pairs1).1 [(c2.1, c2.2.1, c2.2.2)]).1 c2.1 c2.2.1).1 == !c2.2.2) = Bool.true then some (Bool.false, ())
 else (if Pairs.pre (graphOf.fn n0 pairs1).1 = Bool.true then (match F23 ((Changed.fn (graphOf.fn n0 pairs1).1 [(c2.1, c2.2.1, c2.2.2)]).1) ((Pairs.fn (graphOf.fn n0 pairs1).1).1) ((0 : Int)) (c2.1) (c2.2.1) (c2.2.2) with
  | some (Sum.inl <| ((t6_57, _), _)) => some (t6_57, ())
  | some (Sum.inr <| (_, _)) => some (Bool.true, ())
  | none => none)
 else none))
 else (if (!(Has.fn (Changed.fn (graphOf.fn n0 pairs1).1 [(c2.1, c2.2.1, c2.2.2)]).1 c2.1 c2.2.1).1 == Bool.false) = Bool.true then some (Bool.false, ())
 else (if Pairs.pre (graphOf.fn n0 pairs1).1 = Bool.true then (match F23 ((Changed.fn (graphOf.fn n0 pairs1).1 [(c2.1, c2.2.1, c2.2.2)]).1) ((Pairs.fn (graphOf.fn n0 pairs1).1).1) ((0 : Int)) (c2.1) (c2.2.1) (c2.2.2) with
  | some (Sum.inl <| ((t6_59, _), _)) => some (t6_59, ())
  | some (Sum.inr <| (_, _)) => some (Bool.true, ())
  | none => none)
 else none)))
 else none)
 else some (Bool.false, ()))
 else none))
 else (if Edges.pre (Changed.fn (graphOf.fn n0 pairs1).1 [(c2.1, c2.2.1, c2.2.2)]).1 = Bool.true then (if ((Edges.fn (Changed.fn (graphOf.fn n0 pairs1).1 [(c2.1, c2.2.1, c2.2.2)]).1).1 != (Edges.fn (graphOf.fn n0 pairs1).1).1) = Bool.false then (if Has.pre (Changed.fn (graphOf.fn n0 pairs1).1 [(c2.1, c2.2.1, c2.2.2)]).1 c2.1 c2.2.1 = Bool.true then (if (c2.1 != c2.2.1) = Bool.true then (if (!(Has.fn (Changed.fn (graphOf.fn n0 pairs1).1 [(c2.1, c2.2.1, c2.2.2)]).1 c2.1 c2.2.1).1 == !c2.2.2) = Bool.true then some (Bool.false, ())
 else (if Pairs.pre (graphOf.fn n0 pairs1).1 = Bool.true then (match F23 ((Changed.fn (graphOf.fn n0 pairs1).1 [(c2.1, c2.2.1, c2.2.2)]).1) ((Pairs.fn (graphOf.fn n0 pairs1).1).1) ((0 : Int)) (c2.1) (c2.2.1) (c2.2.2) with
  | some (Sum.inl <| ((t6_61, _), _)) => some (t6_61, ())
  | some (Sum.inr <| (_, _)) => some (Bool.true, ())
  | none => none)
 else none))
 else (if (!(Has.fn (Changed.fn (graphOf.fn n0 pairs1).1 [(c2.1, c2.2.1, c2.2.2)]).1 c2.1 c2.2.1).1 == Bool.false) = Bool.true then some (Bool.false, ())
 else (if Pairs.pre (graphOf.fn n0 pairs1).1 = Bool.true then (match F23 ((Changed.fn (graphOf.fn n0 pairs1).1 [(c2.1, c2.2.1, c2.2.2)]).1) ((Pairs.fn (graphOf.fn n0 pairs1).1).1) ((0 : Int)) (c2.1) (c2.2.1) (c2.2.2) with
  | some (Sum.inl <| ((t6_63, _), _)) => some (t6_63, ())
  | some (Sum.inr <| (_, _)) => some (Bool.true, ())
  | none => none)
 else none)))
 else none)
 else some (Bool.false, ()))
 else none)))
 else none)
 else none))
 else none)
 else some (Bool.false, ())))
 else (if Option.isNone (Changed.fn (graphOf.fn n0 pairs1).1 [(c2.1, c2.2.1, c2.2.2)]).1 = Bool.true then (if num5.pre (Changed.fn (graphOf.fn n0 pairs1).1 [(c2.1, c2.2.1, c2.2.2)]).2.1 = Bool.true then some ((num5.fn (Changed.fn (graphOf.fn n0 pairs1).1 [(c2.1, c2.2.1, c2.2.2)]).2.1).1 == (42 : Int), ())
 else none)
 else some (Bool.false, ())))
 else (if Option.isNone (Changed.fn (graphOf.fn n0 pairs1).1 [(c2.1, c2.2.1, c2.2.2)]).1 = Bool.true then (if num5.pre (Changed.fn (graphOf.fn n0 pairs1).1 [(c2.1, c2.2.1, c2.2.2)]).2.1 = Bool.true then some ((num5.fn (Changed.fn (graphOf.fn n0 pairs1).1 [(c2.1, c2.2.1, c2.2.2)]).2.1).1 == (42 : Int), ())
 else none)
 else some (Bool.false, ())))
 else (if Option.isNone (Changed.fn (graphOf.fn n0 pairs1).1 [(c2.1, c2.2.1, c2.2.2)]).1 = Bool.true then (if num5.pre (Changed.fn (graphOf.fn n0 pairs1).1 [(c2.1, c2.2.1, c2.2.2)]).2.1 = Bool.true then some ((num5.fn (Changed.fn (graphOf.fn n0 pairs1).1 [(c2.1, c2.2.1, c2.2.2)]).2.1).1 == (42 : Int), ())
 else none)
 else some (Bool.false, ())))
 else none))
 else none))
 else some (first5.fn.1, ()))
 else none)
 else none)
noncomputable def run (d : Ds (List.map PM.ty ps)) : Option (Ds (muts ps ++ List.map PM.ty rs)) := match d with
  | (n0, pairs1, c2, _) => run' n0 pairs1 c2
theorem run_is : ∀ d, runF env 184 code [6] ps rs d = run d := fun d => by kernel_rfl
theorem loops : LoopsOk env code := loopsOk_of (l := [[true, true, true, true, true, true, true, true, true, true, true, true, true, true, true, false, true, false, false]]) (by kernel_rfl) (fun p hp => by
  simp only [List.mem_cons, List.not_mem_nil, or_false] at hp
  rcases hp with rfl
  · exact loopOk_lp (L := L23) (x := sub [true, true, true, true, true, true, true, true, true, true, true, true, true, true, true, false, true, false, false] code) (by kernel_rfl) (by simp [L23]) round23 ends23
  )
noncomputable def pre (n0 : Int) (pairs1 : (List (Int × Int))) (c2 : (Int × (Int × Bool))) : Bool := (run' n0 pairs1 c2).isSome
noncomputable def fn (n0 : Int) (pairs1 : (List (Int × Int))) (c2 : (Int × (Int × Bool))) : D := match run' n0 pairs1 c2 with
  | some x => x
  | none => default
noncomputable def sig : Sig := ⟨ps, rs, fun d => match d with
  | (n0, pairs1, c2, _) => pre n0 pairs1 c2, fun d => match d with
  | (n0, pairs1, c2, _) => fn n0 pairs1 c2⟩
theorem run_fn (n0 : Int) (pairs1 : (List (Int × Int))) (c2 : (Int × (Int × Bool))) (h : pre n0 pairs1 c2 = true) : run' n0 pairs1 c2 = some (fn n0 pairs1 c2) := by
  unfold pre at h
  unfold fn
  cases e : run' n0 pairs1 c2 with
  | some x => rfl
  | none => rw [e] at h; cases h
theorem is_fn (n0 : Int) (pairs1 : (List (Int × Int))) (c2 : (Int × (Int × Bool))) {x : D} (h : run' n0 pairs1 c2 = some x) : pre n0 pairs1 c2 = true ∧ fn n0 pairs1 c2 = x := by
  unfold pre fn
  rw [h]
  exact ⟨rfl, rfl⟩
theorem sound {ρ : Obs} (hE : EnvOk Go.Proofs.Try.prog ρ env) : Sound Go.Proofs.Try.prog ρ 7 sig := sound_of (fn := Go.Proofs.Try.f7) (c := code) (res := [6]) hE (by kernel_rfl) (by kernel_rfl) (by kernel_rfl) (by kernel_rfl) (by kernel_rfl) loops rfl (show 3 ≤ 184 by decide) (fun d hd => (run_is d).trans (by
  obtain ⟨n0, pairs1, c2, _⟩ := d
  exact run_fn n0 pairs1 c2 hd))
theorem enters : Enters Go.Proofs.Try.prog 7 := enters_of (fn := Go.Proofs.Try.f7) (by kernel_rfl) (by kernel_rfl) (by kernel_rfl)
theorem ok {ρ : Obs} (h : ∀ p ∈ ([(31, first5.sig), (32, fine.sig), (33, graphOf.sig), (35, Pairs.sig), (41, Has.sig), (43, Changed.sig), (44, num5.sig), (45, Edges.sig)] : List (FuncId × Sig)), Enters Go.Proofs.Try.prog p.1 ∧ Sound Go.Proofs.Try.prog ρ p.1 p.2) : Enters Go.Proofs.Try.prog 7 ∧ Sound Go.Proofs.Try.prog ρ 7 sig := ⟨enters, sound (envOk_of tabOk h)⟩
theorem okR : Enters Go.Proofs.Try.prog 7 ∧ Sound Go.Proofs.Try.prog rho 7 sig := ok (fun p hp => by
  simp only [List.mem_cons, List.not_mem_nil, or_false] at hp
  rcases hp with rfl | rfl | rfl | rfl | rfl | rfl | rfl | rfl
  · exact first5.okR
  · exact fine.okR
  · exact graphOf.okR
  · exact Pairs.okR
  · exact Has.okR
  · exact Changed.okR
  · exact num5.okR
  · exact Edges.okR)
end GraphChange
end Go.Proofs.Ythbojpaghbbnnaa.Z
