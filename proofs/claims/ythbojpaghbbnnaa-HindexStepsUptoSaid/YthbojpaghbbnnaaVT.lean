/- Plain law: HindexRuns answers true; what is made of pairs. No condition. -/
import Derived.Test.YthbojpaghbbnnaaVA
import Derived.Test.YthbojpaghbbnnaaWB
import Derived.Test.YthbojpaghbbnnaaHE
import Derived.KernelRfl
import Derived.Test.YthbojpaghbbnnaaZN
import Derived.Test.YthbojpaghbbnnaaZT
import Derived.Test.YthbojpaghbbnnaaZP
import Derived.Test.YthbojpaghbbnnaaVQ
import Derived.Test.YthbojpaghbbnnaaWD
import Derived.Test.YthbojpaghbbnnaaZO
namespace Go.Proofs.Ythbojpaghbbnnaa.Z
open Go Go.RowKit
set_option linter.unusedVariables false
set_option linter.unusedSimpArgs false
/-- The graph that is made. -/
def madeG (n : Int) (l : List (Int × Int)) : Gr := Gr.ofPairs n.toNat (mods n.toNat l)
/-- Its lists. -/
def listsOf (G : Gr) : List (List Int) := (List.range G.n).map (fun v => up (G.nb v))
def madeOk (n : Int) (l : List (Int × Int)) : Bool := decide (0 ≤ n) && decide (n ≤ 400) && decide (l.length ≤ 4000)
namespace Made7
abbrev ps : List PM := [.val I64, .val (.list Pr)]
abbrev rs : List PM := [.val (.obj 0), .val (.list (.list I64))]
noncomputable def pre (n : Int) (l : List (Int × Int)) : Bool := true
noncomputable def fn (n : Int) (l : List (Int × Int)) : (Option Gr) × (List (List Int)) × Unit := if madeOk n l = true then (some (madeG n l), listsOf (madeG n l), ()) else (none, [], ())
noncomputable def sig : Sig := ⟨ps, rs, fun d => match d with
  | (n, l, _) => pre n l, fun d => match d with
  | (n, l, _) => fn n l⟩
theorem rows_out {U : Nat → Prop} {w : World} {tb base n : Nat} {T : Nat → List Int} {vs : List Value} (h : RowsAt w base tb n T vs) (hn : n ≤ 16777216) (hU : ∀ b, U b → b < tb) (htb : tb < base) : IRd rho U w (.list (.list I64)) (.slice (some ⟨tb, 0, none⟩) n n) ((List.range n).map T) := by
  obtain ⟨h1, h2, h3, _⟩ := h
  have ho : w.ownsRow tb 25 1 (.slice (some ⟨tb, 0, none⟩) n n) n vs := ⟨by simp [h1], .inr ⟨tb, n, vs.toArray, rfl, Nat.le_refl _, h2, Nat.le_refl _, by unfold maxLen; omega, by simp [h1], by simp [← h1]⟩⟩
  refine row_out (t := .list I64) ho (by simp) ?_ hU
  have key : ∀ (us : List Value) (L : List (List Int)), us.length = L.length → (∀ (i : Nat) (x : Value) (y : List Int), us[i]? = some x → L[i]? = some y → ∃ n, n = y.length ∧ w.ownsRow base 3 1 x n (y.map (Value.int .i64))) → Els (ICs rho U w (.list I64)) us L := by
    intro us L
    induction L generalizing us with
    | nil => intro e _; cases us with
      | nil => rfl
      | cons x us => simp at e
    | cons y L ih => intro e hh; cases us with
      | nil => simp at e
      | cons x us =>
        refine ⟨[x], us, rfl, ?_, ih us (by simpa using e) (fun i p q a b => hh (i + 1) p q (by simpa using a) (by simpa using b))⟩
        obtain ⟨n, hn, h4⟩ := hh 0 x y rfl rfl
        have h5 := ints_out (ρ := rho) (U := U) h4 hn (fun b hb => Nat.lt_trans (hU b hb) htb)
        obtain ⟨cs, e, h6⟩ := h5
        obtain ⟨A, c, ds, rfl, h7⟩ := h6
        exact ⟨A, c, ds, by rw [e]; rfl, h7⟩
  refine key vs _ (by simp [h1]) (fun i x y hx hy => ?_)
  obtain ⟨hi, hxx⟩ := List.getElem?_eq_some_iff.1 hx
  obtain ⟨x', e, hxo⟩ := h3 i (by omega)
  rw [hx] at e
  cases e
  have hy' : y = T i := by
    rw [List.getElem?_map, List.getElem?_range (by omega)] at hy
    simpa using hy.symm
  subst hy'
  exact ⟨_, rfl, hxo⟩
theorem sound : Sound Try.prog rho 70 sig := sound22 (fun (n : Int) (l : List (Int × Int)) hp w U v0 v1 hU h0 h1 => by
  obtain rfl := h0.int
  by_cases hm : madeOk n l = true
  · rw [fn, if_pos hm]
    unfold madeOk at hm
    simp only [Bool.and_eq_true, decide_eq_true_eq] at hm
    obtain ⟨⟨hn0, hn1⟩, hl⟩ := hm
    obtain ⟨m, rfl⟩ := Int.eq_ofNat_of_zero_le hn0
    rcases Nat.eq_zero_or_pos m with rfl | hpos
    · refine (made_zero w (prs_in h1) hl).mono ?_
      rintro e w' ⟨hb, g, lo1, hi1, tb, rfl, k1, k2, k3, k4⟩
      exact ⟨hb, _, _, rfl, pg_out k2 (fun b hb => Nat.lt_of_lt_of_le (hU b hb) k1), row_out (t := .list I64) (xs := []) k4 rfl rfl hU⟩
    · refine (made_pos w m hpos (by omega) (prs_in h1) hl).mono ?_
      rintro e w' ⟨hb, g, lo1, hi1, tb, base, vs, rfl, k1, k2, k3, k4, k5⟩
      exact ⟨hb, _, _, rfl, pg_out k2 (fun b hb => Nat.lt_of_lt_of_le (hU b hb) k1), rows_out k5 (by omega) (fun b hb => Nat.lt_of_lt_of_le (hU b hb) k3) k4⟩
  · rw [fn, if_neg hm]
    refine (made_no w n (prs_in h1) (by simp [madeOk] at hm; omega)).mono ?_
    rintro e w' ⟨rfl, hb⟩
    exact ⟨hb, _, _, rfl, nil_out, row_out (t := .list I64) (xs := []) (World.ownsRow_nil w' w.heap.size 25 1) rfl rfl hU⟩)
theorem enters : Enters Try.prog 70 := enters_of (fn := Try.f70) (by kernel_rfl) (by kernel_rfl) (by kernel_rfl)
theorem okR : Enters Try.prog 70 ∧ Sound Try.prog rho 70 sig := ⟨enters, sound⟩
end Made7
end Go.Proofs.Ythbojpaghbbnnaa.Z
namespace Go.Proofs.Ythbojpaghbbnnaa.Z
open Go Go.RowKit
set_option linter.unusedVariables false
set_option linter.unusedSimpArgs false
/-! pith/pithlaw7.HindexSweeps -/
namespace HindexSweeps
abbrev ps : List PM := [.val I64, .val (.list Pr), .val (.list I64), .val I64, .val I64]
abbrev rs : List PM := [.val .bool]
noncomputable abbrev code : Code := (Go.Proofs.Try.f14.body.getD .skip)
abbrev s7 : Shape := ⟨[.v I64, .un, .v (.list I64), .v I64, .v I64, .un, .un, .un, .un, .un, .un, .un, .v (.obj 0), .v (.list (.list I64)), .row 0, .v I64, .un, .un, .un, .un, .un, .un, .un, .un, .un, .un, .un, .un, .un, .un, .un, .un, .un, .un, .un, .un, .un, .un, .un, .un, .un, .un, .un, .un, .un, .un, .un, .un, .un, .un, .un, .un, .un, .un, .un, .un, .un, .un, .un, .un, .un, .un, .un, .un, .un, .un, .un, .un, .un, .un, .un, .un, .un, .un, .un, .un, .un, .un, .un, .un, .un, .un, .un, .un, .un, .un, .un, .un, .un, .un, .un, .un, .un, .un, .un, .un, .un, .un, .un, .un, .un, .un, .un, .un, .un, .un, .un, .un, .un, .un, .un, .un, .un, .un, .un, .un, .un, .un, .un, .un, .un, .un, .un, .un, .un, .un, .un, .un, .un, .un, .un, .un, .un, .un, .un, .un, .un, .un, .un, .un, .un, .un, .un, .un, .un, .un], [.row (3 : Go.TypeId) I64]⟩
abbrev x7 : List Way := [⟨.rt, ⟨[(10, none)]⟩, ⟨[.un, .un, .un, .un, .un, .un, .un, .un, .un, .un, .v .bool, .un, .un, .un, .un, .un, .un, .un, .un, .un, .un, .un, .un, .un, .un, .un, .un, .un, .un, .un, .un, .un, .un, .un, .un, .un, .un, .un, .un, .un, .un, .un, .un, .un, .un, .un, .un, .un, .un, .un, .un, .un, .un, .un, .un, .un, .un, .un, .un, .un, .un, .un, .un, .un, .un, .un, .un, .un, .un, .un, .un, .un, .un, .un, .un, .un, .un, .un, .un, .un, .un, .un, .un, .un, .un, .un, .un, .un, .un, .un, .un, .un, .un, .un, .un, .un, .un, .un, .un, .un, .un, .un, .un, .un, .un, .un, .un, .un, .un, .un, .un, .un, .un, .un, .un, .un, .un, .un, .un, .un, .un, .un, .un, .un, .un, .un, .un, .un, .un, .un, .un, .un, .un, .un, .un, .un, .un, .un, .un, .un, .un, .un, .un, .un, .un, .un], []⟩⟩, ⟨(.ex 0), ⟨[]⟩, ⟨[.un, .un, .un, .un, .un, .un, .un, .un, .un, .un, .un, .un, .un, .un, .un, .un, .un, .un, .un, .un, .un, .un, .un, .un, .un, .un, .un, .un, .un, .un, .un, .un, .un, .un, .un, .un, .un, .un, .un, .un, .un, .un, .un, .un, .un, .un, .un, .un, .un, .un, .un, .un, .un, .un, .un, .un, .un, .un, .un, .un, .un, .un, .un, .un, .un, .un, .un, .un, .un, .un, .un, .un, .un, .un, .un, .un, .un, .un, .un, .un, .un, .un, .un, .un, .un, .un, .un, .un, .un, .un, .un, .un, .un, .un, .un, .un, .un, .un, .un, .un, .un, .un, .un, .un, .un, .un, .un, .un, .un, .un, .un, .un, .un, .un, .un, .un, .un, .un, .un, .un, .un, .un, .un, .un, .un, .un, .un, .un, .un, .un, .un, .un, .un, .un, .un, .un, .un, .un, .un, .un, .un, .un, .un, .un, .un, .un], []⟩⟩]
abbrev V7 : Type := (Int × (List Int) × Int × Int × (Option Gr) × (List (List Int)) × Int × Unit) × ((List Int) × Unit)
abbrev X7 : Type := ((Bool × Unit) × (Unit)) ⊕ ((Unit) × (Unit))
noncomputable def R7 {R : Type} (n0 : Int) (est2 : (List Int)) (at3 : Int) (to4 : Int) (g12 : (Option Gr)) (lists13 : (List (List Int))) (round15 : Int) (r0 : List Int) (k : V7 → Option R) (kx : X7 → Option R) : Option R := (if Decidable.decide (round15 < (2 : Int)) = Bool.true then (if IntsO.pre r0 = Bool.true then (if (↑(List.length est2) : Int) ≤ IntKind.wrap .i64 ((↑(List.length est2) : Int) + (1 : Int)) then (if IntKind.wrap .i64 ((↑(List.length est2) : Int) + (1 : Int)) ≤ (↑(List.length r0) : Int) then (if SweepH.pre g12 (List.take (Int.toNat (↑(List.length est2) : Int)) r0) = Bool.true then (if SameIntsH.pre r0 (IntsO.fn r0).1 = Bool.true then (if est0.pre (IntsO.fn r0).1 = Bool.true then (if fits.pre (est0.fn (IntsO.fn r0).1).1 n0 = Bool.true then (if (!(fits.fn (est0.fn (IntsO.fn r0).1).1 n0).1) = Bool.true then (if num7.pre (SweepH.fn g12 (List.take (Int.toNat (↑(List.length est2) : Int)) r0)).2.2.2.1 = Bool.true then (if ((num7.fn (SweepH.fn g12 (List.take (Int.toNat (↑(List.length est2) : Int)) r0)).2.2.2.1).1 != (70 : Int)) = Bool.false then (if ((↑(List.length (SweepH.fn g12 (List.take (Int.toNat (↑(List.length est2) : Int)) r0)).1) : Int) != (0 : Int)) = Bool.false then (if ((SweepH.fn g12 (List.take (Int.toNat (↑(List.length est2) : Int)) r0)).2.1 != (0 : Int)) = Bool.false then (if (SweepH.fn g12 (List.take (Int.toNat (↑(List.length est2) : Int)) r0)).2.2.1 = Bool.false then (if (!(SameIntsH.fn r0 (IntsO.fn r0).1).1) = Bool.true then kx (Sum.inl <| ((Bool.false, ()), (())))
 else (if Decidable.decide ((↑(List.length est2) : Int) > (0 : Int)) = Bool.true then (if (↑(List.length est2) : Int) = (0 : Int) then none
 else (if (↑(List.length est2) : Int) = (0 : Int) then none
 else (if (0 : Int) ≤ Int.tmod (IntKind.wrap .i64 (Int.tmod at3 (↑(List.length est2) : Int) + (↑(List.length est2) : Int))) (↑(List.length est2) : Int) then (if Int.tmod (IntKind.wrap .i64 (Int.tmod at3 (↑(List.length est2) : Int) + (↑(List.length est2) : Int))) (↑(List.length est2) : Int) < (↑(List.length r0) : Int) then (if Int.toNat (Int.tmod (IntKind.wrap .i64 (Int.tmod at3 (↑(List.length est2) : Int) + (↑(List.length est2) : Int))) (↑(List.length est2) : Int)) < List.length r0 then k ((n0, est2, at3, to4, g12, lists13, IntKind.wrap .i64 (round15 + (1 : Int)), ()), (List.set r0 (Int.toNat (Int.tmod (IntKind.wrap .i64 (Int.tmod at3 (↑(List.length est2) : Int) + (↑(List.length est2) : Int))) (↑(List.length est2) : Int))) to4, ()))
 else none)
 else none)
 else none)))
 else k ((n0, est2, at3, to4, g12, lists13, IntKind.wrap .i64 (round15 + (1 : Int)), ()), (r0, ()))))
 else kx (Sum.inl <| ((Bool.false, ()), (()))))
 else kx (Sum.inl <| ((Bool.false, ()), (()))))
 else kx (Sum.inl <| ((Bool.false, ()), (()))))
 else kx (Sum.inl <| ((Bool.false, ()), (()))))
 else none)
 else (if est0.pre (IntsO.fn r0).1 = Bool.true then (if Sweep7.pre lists13 (est0.fn (IntsO.fn r0).1).1 = Bool.true then (if SameIntsH.pre (SweepH.fn g12 (List.take (Int.toNat (↑(List.length est2) : Int)) r0)).1 (Sweep7.fn lists13 (est0.fn (IntsO.fn r0).1).1).1 = Bool.true then (if (!(SameIntsH.fn (SweepH.fn g12 (List.take (Int.toNat (↑(List.length est2) : Int)) r0)).1 (Sweep7.fn lists13 (est0.fn (IntsO.fn r0).1).1).1).1) = Bool.false then (if ((SweepH.fn g12 (List.take (Int.toNat (↑(List.length est2) : Int)) r0)).2.1 != (Sweep7.fn lists13 (est0.fn (IntsO.fn r0).1).1).2.1) = Bool.false then (if (!(SweepH.fn g12 (List.take (Int.toNat (↑(List.length est2) : Int)) r0)).2.2.1 == (Sweep7.fn lists13 (est0.fn (IntsO.fn r0).1).1).2.2.1) = Bool.false then (if num7.pre (SweepH.fn g12 (List.take (Int.toNat (↑(List.length est2) : Int)) r0)).2.2.2.1 = Bool.true then (if ((num7.fn (SweepH.fn g12 (List.take (Int.toNat (↑(List.length est2) : Int)) r0)).2.2.2.1).1 != (0 : Int)) = Bool.false then (if (!(SameIntsH.fn r0 (IntsO.fn r0).1).1) = Bool.true then kx (Sum.inl <| ((Bool.false, ()), (())))
 else (if Decidable.decide ((↑(List.length est2) : Int) > (0 : Int)) = Bool.true then (if (↑(List.length est2) : Int) = (0 : Int) then none
 else (if (↑(List.length est2) : Int) = (0 : Int) then none
 else (if (0 : Int) ≤ Int.tmod (IntKind.wrap .i64 (Int.tmod at3 (↑(List.length est2) : Int) + (↑(List.length est2) : Int))) (↑(List.length est2) : Int) then (if Int.tmod (IntKind.wrap .i64 (Int.tmod at3 (↑(List.length est2) : Int) + (↑(List.length est2) : Int))) (↑(List.length est2) : Int) < (↑(List.length r0) : Int) then (if Int.toNat (Int.tmod (IntKind.wrap .i64 (Int.tmod at3 (↑(List.length est2) : Int) + (↑(List.length est2) : Int))) (↑(List.length est2) : Int)) < List.length r0 then k ((n0, est2, at3, to4, g12, lists13, IntKind.wrap .i64 (round15 + (1 : Int)), ()), (List.set r0 (Int.toNat (Int.tmod (IntKind.wrap .i64 (Int.tmod at3 (↑(List.length est2) : Int) + (↑(List.length est2) : Int))) (↑(List.length est2) : Int))) to4, ()))
 else none)
 else none)
 else none)))
 else k ((n0, est2, at3, to4, g12, lists13, IntKind.wrap .i64 (round15 + (1 : Int)), ()), (r0, ()))))
 else kx (Sum.inl <| ((Bool.false, ()), (()))))
 else none)
 else kx (Sum.inl <| ((Bool.false, ()), (()))))
 else kx (Sum.inl <| ((Bool.false, ()), (()))))
 else kx (Sum.inl <| ((Bool.false, ()), (()))))
 else none)
 else none)
 else none))
 else none)
 else none)
 else none)
 else none)
 else none)
 else none)
 else none)
 else kx (Sum.inr <| ((()), (()))))
noncomputable def rd7 : Rd (VO s7) (Xs x7) := fun v k kx => match v with
  | ((n0, est2, at3, to4, g12, lists13, round15, _), (r0, _)) => R7 n0 est2 at3 to4 g12 lists13 round15 r0 k kx
noncomputable def F7 (n0 : Int) (est2 : (List Int)) (at3 : Int) (to4 : Int) (g12 : (Option Gr)) (lists13 : (List (List Int))) (round15 : Int) (r0 : List Int) : Option X7 := finOf rd7 ((n0, est2, at3, to4, g12, lists13, round15, ()), (r0, ()))
theorem F7_inv {n0 : Int} {est2 : (List Int)} {at3 : Int} {to4 : Int} {g12 : (Option Gr)} {lists13 : (List (List Int))} (I : Int → List Int → Prop) (μ : Int → List Int → Nat) (Q : X7 → Prop) (h : ∀ (round15 : Int) (r0 : List Int), I round15 r0 → Led (fun (R : Type) (k : V7 → Option R) (kx : X7 → Option R) => R7 n0 est2 at3 to4 g12 lists13 round15 r0 k kx) (fun v => ∃ (round15' : Int) (r0' : List Int), v = ((n0, est2, at3, to4, g12, lists13, round15', ()), (r0', ())) ∧ I round15' r0' ∧ μ round15' r0' < μ round15 r0) Q) : ∀ (round15 : Int) (r0 : List Int), I round15 r0 → ∃ z, F7 n0 est2 at3 to4 g12 lists13 round15 r0 = some z ∧ Q z := fun round15 r0 hi => by
  refine finOf_inv (V := V7) (X := X7) (rd := rd7) (fun v => ∃ (round15' : Int) (r0' : List Int), v = ((n0, est2, at3, to4, g12, lists13, round15', ()), (r0', ())) ∧ I round15' r0') (fun v => match v with
    | ((n0, est2, at3, to4, g12, lists13, round15, _), (r0, _)) => μ round15 r0) Q (fun v hv => ?_) ((n0, est2, at3, to4, g12, lists13, round15, ()), (r0, ())) ⟨round15, r0, rfl, hi⟩
  obtain ⟨round15, r0, rfl, hi⟩ := hv
  refine led_mono (h round15 r0 hi) ?_ (fun _ q => q)
  rintro v ⟨round15', r0', rfl, h1, h2⟩
  exact ⟨⟨round15', r0', rfl, h1⟩, h2⟩
noncomputable def L7 : Lp := ⟨7, ⟨[(0, none), (2, none), (3, none), (4, none), (12, none), (13, none), (14, none), (15, none)]⟩, s7, x7, fun v => match v with
  | ((n0, est2, at3, to4, g12, lists13, round15, _), (r0, _)) => F7 n0 est2 at3 to4 g12 lists13 round15 r0⟩
theorem ends7 : Ends L7 rd7 := ends_fin (fun v => by
  obtain ⟨⟨n0, est2, at3, to4, g12, lists13, round15, _⟩, ⟨r0, _⟩⟩ := v
  rfl)
noncomputable def env : Env := mkEnv tab [(66, first7.sig), (70, Made7.sig), (67, IntsO.sig), (71, SweepH.sig), (53, SameIntsH.sig), (73, est0.sig), (72, fits.sig), (74, num7.sig), (75, Sweep7.sig)] 0 [] [L7]
theorem round7 : RoundIs env (sub [true, true, true, true, true, false, true, false, false] code) L7 rd7 := fun R v k kx => by kernel_rfl
abbrev D : Type := (Bool × Unit)
noncomputable def run' (n0 : Int) (pairs1 : (List (Int × Int))) (est2 : (List Int)) (at3 : Int) (to4 : Int) : Option D := (if first7.pre = Bool.true then (if Made7.pre n0 pairs1 = Bool.true then (if (!first7.fn.1) = Bool.false then (if Option.isNone (Made7.fn n0 pairs1).1 = Bool.false then (if Decidable.decide ((↑(List.length est2) : Int) > (16384 : Int)) = Bool.true then some (first7.fn.1, ())
 else (if IntsO.pre est2 = Bool.true then (if (List.length (IntsO.fn est2).1 + List.length [(-7 : Int)]) * (8 : Nat) ≤ (140737488355328 : Nat) then (match F7 (n0) (est2) (at3) (to4) ((Made7.fn n0 pairs1).1) ((Made7.fn n0 pairs1).2.1) ((0 : Int)) ((IntsO.fn est2).1 ++ [(-7 : Int)]) with
  | some (Sum.inl <| ((t10_1, _), _)) => some (t10_1, ())
  | some (Sum.inr <| (_, _)) => some (Bool.true, ())
  | none => none)
 else none)
 else none))
 else some (first7.fn.1, ()))
 else some (first7.fn.1, ()))
 else none)
 else none)
noncomputable def run (d : Ds (List.map PM.ty ps)) : Option (Ds (muts ps ++ List.map PM.ty rs)) := match d with
  | (n0, pairs1, est2, at3, to4, _) => run' n0 pairs1 est2 at3 to4
theorem run_is : ∀ d, runF env 146 code [10] ps rs d = run d := fun d => by kernel_rfl
theorem loops : LoopsOk env code := loopsOk_of (l := [[true, true, true, true, true, false, true, false, false]]) (by kernel_rfl) (fun p hp => by
  simp only [List.mem_cons, List.not_mem_nil, or_false] at hp
  rcases hp with rfl
  · exact loopOk_lp (L := L7) (x := sub [true, true, true, true, true, false, true, false, false] code) (by kernel_rfl) (by simp [L7]) round7 ends7
  )
noncomputable def pre (n0 : Int) (pairs1 : (List (Int × Int))) (est2 : (List Int)) (at3 : Int) (to4 : Int) : Bool := (run' n0 pairs1 est2 at3 to4).isSome
noncomputable def fn (n0 : Int) (pairs1 : (List (Int × Int))) (est2 : (List Int)) (at3 : Int) (to4 : Int) : D := match run' n0 pairs1 est2 at3 to4 with
  | some x => x
  | none => default
noncomputable def sig : Sig := ⟨ps, rs, fun d => match d with
  | (n0, pairs1, est2, at3, to4, _) => pre n0 pairs1 est2 at3 to4, fun d => match d with
  | (n0, pairs1, est2, at3, to4, _) => fn n0 pairs1 est2 at3 to4⟩
theorem run_fn (n0 : Int) (pairs1 : (List (Int × Int))) (est2 : (List Int)) (at3 : Int) (to4 : Int) (h : pre n0 pairs1 est2 at3 to4 = true) : run' n0 pairs1 est2 at3 to4 = some (fn n0 pairs1 est2 at3 to4) := by
  unfold pre at h
  unfold fn
  cases e : run' n0 pairs1 est2 at3 to4 with
  | some x => rfl
  | none => rw [e] at h; cases h
theorem is_fn (n0 : Int) (pairs1 : (List (Int × Int))) (est2 : (List Int)) (at3 : Int) (to4 : Int) {x : D} (h : run' n0 pairs1 est2 at3 to4 = some x) : pre n0 pairs1 est2 at3 to4 = true ∧ fn n0 pairs1 est2 at3 to4 = x := by
  unfold pre fn
  rw [h]
  exact ⟨rfl, rfl⟩
theorem sound {ρ : Obs} (hE : EnvOk Go.Proofs.Try.prog ρ env) : Sound Go.Proofs.Try.prog ρ 14 sig := sound_of (fn := Go.Proofs.Try.f14) (c := code) (res := [10]) hE (by kernel_rfl) (by kernel_rfl) (by kernel_rfl) (by kernel_rfl) (by kernel_rfl) loops rfl (show 5 ≤ 146 by decide) (fun d hd => (run_is d).trans (by
  obtain ⟨n0, pairs1, est2, at3, to4, _⟩ := d
  exact run_fn n0 pairs1 est2 at3 to4 hd))
theorem enters : Enters Go.Proofs.Try.prog 14 := enters_of (fn := Go.Proofs.Try.f14) (by kernel_rfl) (by kernel_rfl) (by kernel_rfl)
theorem ok {ρ : Obs} (h : ∀ p ∈ ([(66, first7.sig), (70, Made7.sig), (67, IntsO.sig), (71, SweepH.sig), (53, SameIntsH.sig), (73, est0.sig), (72, fits.sig), (74, num7.sig), (75, Sweep7.sig)] : List (FuncId × Sig)), Enters Go.Proofs.Try.prog p.1 ∧ Sound Go.Proofs.Try.prog ρ p.1 p.2) : Enters Go.Proofs.Try.prog 14 ∧ Sound Go.Proofs.Try.prog ρ 14 sig := ⟨enters, sound (envOk_of tabOk h)⟩
theorem okR : Enters Go.Proofs.Try.prog 14 ∧ Sound Go.Proofs.Try.prog rho 14 sig := ok (fun p hp => by
  simp only [List.mem_cons, List.not_mem_nil, or_false] at hp
  rcases hp with rfl | rfl | rfl | rfl | rfl | rfl | rfl | rfl | rfl
  · exact first7.okR
  · exact Made7.okR
  · exact IntsO.okR
  · exact SweepH.okR
  · exact SameIntsH.okR
  · exact est0.okR
  · exact fits.okR
  · exact num7.okR
  · exact Sweep7.okR)
end HindexSweeps
/-! pith/pithlaw7.HindexRuns -/
namespace HindexRuns
abbrev ps : List PM := [.val I64, .val (.list Pr), .val (.list I64)]
abbrev rs : List PM := [.val .bool]
noncomputable abbrev code : Code := (Go.Proofs.Try.f15.body.getD .skip)
noncomputable def env : Env := mkEnv tab [(66, first7.sig), (70, Made7.sig), (67, IntsO.sig), (76, RunH.sig), (53, SameIntsH.sig), (72, fits.sig), (74, num7.sig), (77, Run7.sig)] 0 [] []
abbrev D : Type := (Bool × Unit)
noncomputable def run' (n0 : Int) (pairs1 : (List (Int × Int))) (est2 : (List Int)) : Option D := (if first7.pre = Bool.true then (if Made7.pre n0 pairs1 = Bool.true then (if (!first7.fn.1) = Bool.false then (if Option.isNone (Made7.fn n0 pairs1).1 = Bool.false then (if Decidable.decide ((↑(List.length est2) : Int) > (16384 : Int)) = Bool.true then some (first7.fn.1, ())
 else (if IntsO.pre est2 = Bool.true then (if (List.length (IntsO.fn est2).1 + List.length [(-7 : Int)]) * (8 : Nat) ≤ (140737488355328 : Nat) then (if (↑(List.length est2) : Int) ≤ IntKind.wrap .i64 ((↑(List.length est2) : Int) + (1 : Int)) then (if IntKind.wrap .i64 ((↑(List.length est2) : Int) + (1 : Int)) ≤ (↑(List.length ((IntsO.fn est2).1 ++ [(-7 : Int)])) : Int) then (if RunH.pre (Made7.fn n0 pairs1).1 (List.take (Int.toNat (↑(List.length est2) : Int)) ((IntsO.fn est2).1 ++ [(-7 : Int)])) = Bool.true then (if IntsO.pre est2 = Bool.true then (if (List.length (IntsO.fn est2).1 + List.length [(-7 : Int)]) * (8 : Nat) ≤ (140737488355328 : Nat) then (if SameIntsH.pre ((IntsO.fn est2).1 ++ [(-7 : Int)]) ((IntsO.fn est2).1 ++ [(-7 : Int)]) = Bool.true then (if fits.pre est2 n0 = Bool.true then (if (!(fits.fn est2 n0).1) = Bool.true then (if (SameIntsH.fn ((IntsO.fn est2).1 ++ [(-7 : Int)]) ((IntsO.fn est2).1 ++ [(-7 : Int)])).1 = Bool.true then (if num7.pre (RunH.fn (Made7.fn n0 pairs1).1 (List.take (Int.toNat (↑(List.length est2) : Int)) ((IntsO.fn est2).1 ++ [(-7 : Int)]))).2.2.1 = Bool.true then (if ((num7.fn (RunH.fn (Made7.fn n0 pairs1).1 (List.take (Int.toNat (↑(List.length est2) : Int)) ((IntsO.fn est2).1 ++ [(-7 : Int)]))).2.2.1).1 == (70 : Int)) = Bool.true then (if ((↑(List.length (RunH.fn (Made7.fn n0 pairs1).1 (List.take (Int.toNat (↑(List.length est2) : Int)) ((IntsO.fn est2).1 ++ [(-7 : Int)]))).1) : Int) == (0 : Int)) = Bool.true then some ((↑(List.length (RunH.fn (Made7.fn n0 pairs1).1 (List.take (Int.toNat (↑(List.length est2) : Int)) ((IntsO.fn est2).1 ++ [(-7 : Int)]))).2.1) : Int) == (0 : Int), ())
 else some (Bool.false, ()))
 else some (Bool.false, ()))
 else none)
 else some (Bool.false, ()))
 else (if Run7.pre (Made7.fn n0 pairs1).2.1 est2 = Bool.true then (if SameIntsH.pre (RunH.fn (Made7.fn n0 pairs1).1 (List.take (Int.toNat (↑(List.length est2) : Int)) ((IntsO.fn est2).1 ++ [(-7 : Int)]))).1 (Run7.fn (Made7.fn n0 pairs1).2.1 est2).1 = Bool.true then (if (SameIntsH.fn (RunH.fn (Made7.fn n0 pairs1).1 (List.take (Int.toNat (↑(List.length est2) : Int)) ((IntsO.fn est2).1 ++ [(-7 : Int)]))).1 (Run7.fn (Made7.fn n0 pairs1).2.1 est2).1).1 = Bool.true then (if SameIntsH.pre (RunH.fn (Made7.fn n0 pairs1).1 (List.take (Int.toNat (↑(List.length est2) : Int)) ((IntsO.fn est2).1 ++ [(-7 : Int)]))).2.1 (Run7.fn (Made7.fn n0 pairs1).2.1 est2).2.1 = Bool.true then (if (SameIntsH.fn (RunH.fn (Made7.fn n0 pairs1).1 (List.take (Int.toNat (↑(List.length est2) : Int)) ((IntsO.fn est2).1 ++ [(-7 : Int)]))).2.1 (Run7.fn (Made7.fn n0 pairs1).2.1 est2).2.1).1 = Bool.true then (if (SameIntsH.fn ((IntsO.fn est2).1 ++ [(-7 : Int)]) ((IntsO.fn est2).1 ++ [(-7 : Int)])).1 = Bool.true then (if num7.pre (RunH.fn (Made7.fn n0 pairs1).1 (List.take (Int.toNat (↑(List.length est2) : Int)) ((IntsO.fn est2).1 ++ [(-7 : Int)]))).2.2.1 = Bool.true then some ((num7.fn (RunH.fn (Made7.fn n0 pairs1).1 (List.take (Int.toNat (↑(List.length est2) : Int)) ((IntsO.fn est2).1 ++ [(-7 : Int)]))).2.2.1).1 == (0 : Int), ())
 else none)
 else some (Bool.false, ()))
 else some (Bool.false, ()))
 else none)
 else some (Bool.false, ()))
 else none)
 else none))
 else none)
 else none)
 else none)
 else none)
 else none)
 else none)
 else none)
 else none)
 else none))
 else some (first7.fn.1, ()))
 else some (first7.fn.1, ()))
 else none)
 else none)
noncomputable def run (d : Ds (List.map PM.ty ps)) : Option (Ds (muts ps ++ List.map PM.ty rs)) := match d with
  | (n0, pairs1, est2, _) => run' n0 pairs1 est2
theorem run_is : ∀ d, runF env 105 code [6] ps rs d = run d := fun d => by kernel_rfl
theorem loops : LoopsOk env code := loopsOk_of (l := []) (by kernel_rfl) (fun p hp => by
  cases hp)
noncomputable def pre (n0 : Int) (pairs1 : (List (Int × Int))) (est2 : (List Int)) : Bool := (run' n0 pairs1 est2).isSome
noncomputable def fn (n0 : Int) (pairs1 : (List (Int × Int))) (est2 : (List Int)) : D := match run' n0 pairs1 est2 with
  | some x => x
  | none => default
noncomputable def sig : Sig := ⟨ps, rs, fun d => match d with
  | (n0, pairs1, est2, _) => pre n0 pairs1 est2, fun d => match d with
  | (n0, pairs1, est2, _) => fn n0 pairs1 est2⟩
theorem run_fn (n0 : Int) (pairs1 : (List (Int × Int))) (est2 : (List Int)) (h : pre n0 pairs1 est2 = true) : run' n0 pairs1 est2 = some (fn n0 pairs1 est2) := by
  unfold pre at h
  unfold fn
  cases e : run' n0 pairs1 est2 with
  | some x => rfl
  | none => rw [e] at h; cases h
theorem is_fn (n0 : Int) (pairs1 : (List (Int × Int))) (est2 : (List Int)) {x : D} (h : run' n0 pairs1 est2 = some x) : pre n0 pairs1 est2 = true ∧ fn n0 pairs1 est2 = x := by
  unfold pre fn
  rw [h]
  exact ⟨rfl, rfl⟩
theorem sound {ρ : Obs} (hE : EnvOk Go.Proofs.Try.prog ρ env) : Sound Go.Proofs.Try.prog ρ 15 sig := sound_of (fn := Go.Proofs.Try.f15) (c := code) (res := [6]) hE (by kernel_rfl) (by kernel_rfl) (by kernel_rfl) (by kernel_rfl) (by kernel_rfl) loops rfl (show 3 ≤ 105 by decide) (fun d hd => (run_is d).trans (by
  obtain ⟨n0, pairs1, est2, _⟩ := d
  exact run_fn n0 pairs1 est2 hd))
theorem enters : Enters Go.Proofs.Try.prog 15 := enters_of (fn := Go.Proofs.Try.f15) (by kernel_rfl) (by kernel_rfl) (by kernel_rfl)
theorem ok {ρ : Obs} (h : ∀ p ∈ ([(66, first7.sig), (70, Made7.sig), (67, IntsO.sig), (76, RunH.sig), (53, SameIntsH.sig), (72, fits.sig), (74, num7.sig), (77, Run7.sig)] : List (FuncId × Sig)), Enters Go.Proofs.Try.prog p.1 ∧ Sound Go.Proofs.Try.prog ρ p.1 p.2) : Enters Go.Proofs.Try.prog 15 ∧ Sound Go.Proofs.Try.prog ρ 15 sig := ⟨enters, sound (envOk_of tabOk h)⟩
theorem okR : Enters Go.Proofs.Try.prog 15 ∧ Sound Go.Proofs.Try.prog rho 15 sig := ok (fun p hp => by
  simp only [List.mem_cons, List.not_mem_nil, or_false] at hp
  rcases hp with rfl | rfl | rfl | rfl | rfl | rfl | rfl | rfl
  · exact first7.okR
  · exact Made7.okR
  · exact IntsO.okR
  · exact RunH.okR
  · exact SameIntsH.okR
  · exact fits.okR
  · exact num7.okR
  · exact Run7.okR)
end HindexRuns
/-! pith/pithlaw7.HindexCores -/
namespace HindexCores
abbrev ps : List PM := [.val I64, .val (.list Pr)]
abbrev rs : List PM := [.val .bool]
noncomputable abbrev code : Code := (Go.Proofs.Try.f16.body.getD .skip)
abbrev s14 : Shape := ⟨[.v I64, .un, .un, .un, .un, .un, .v (.obj 0), .v (.list (.list I64)), .v (.list I64), .v I64, .row 0, .un, .v I64, .un, .un, .un, .un, .un, .un, .un, .un, .un, .un, .un, .un, .un, .un, .un, .un, .un, .un, .un, .un, .un, .un, .un, .un, .un, .un, .un, .un, .un, .un, .un, .un, .un, .un, .un, .un, .un, .un, .un, .un, .un, .un, .un, .un, .un, .un, .un, .un, .un, .un, .un, .un, .un], [.row (3 : Go.TypeId) I64]⟩
abbrev x14 : List Way := [⟨(.ex 2), ⟨[(0, none), (6, none), (7, none), (8, none), (9, none)]⟩, ⟨[.v I64, .un, .un, .un, .un, .un, .v (.obj 0), .v (.list (.list I64)), .v (.list I64), .v I64, .un, .un, .un, .un, .un, .un, .un, .un, .un, .un, .un, .un, .un, .un, .un, .un, .un, .un, .un, .un, .un, .un, .un, .un, .un, .un, .un, .un, .un, .un, .un, .un, .un, .un, .un, .un, .un, .un, .un, .un, .un, .un, .un, .un, .un, .un, .un, .un, .un, .un, .un, .un, .un, .un, .un, .un], []⟩⟩]
abbrev V14 : Type := (Int × (Option Gr) × (List (List Int)) × (List Int) × Int × Int × Unit) × ((List Int) × Unit)
abbrev X14 : Type := (Int × (Option Gr) × (List (List Int)) × (List Int) × Int × Unit) × (Unit)
noncomputable def R14 {R : Type} (n0 : Int) (g6 : (Option Gr)) (lists7 : (List (List Int))) (want8 : (List Int)) (round9 : Int) (i12 : Int) (r0 : List Int) (k : V14 → Option R) (kx : X14 → Option R) : Option R := (if Decidable.decide (i12 < (↑(List.length r0) : Int)) = Bool.true then (if (0 : Int) ≤ i12 then (if i12 < (↑(List.length r0) : Int) then (if Int.toNat i12 < List.length r0 then k ((n0, g6, lists7, want8, round9, IntKind.wrap .i64 (i12 + (1 : Int)), ()), (List.set r0 (Int.toNat i12) (-1 : Int), ()))
 else none)
 else none)
 else none)
 else kx (((n0, g6, lists7, want8, round9, ()), (()))))
noncomputable def rd14 : Rd (VO s14) (Xs x14) := fun v k kx => match v with
  | ((n0, g6, lists7, want8, round9, i12, _), (r0, _)) => R14 n0 g6 lists7 want8 round9 i12 r0 k kx
noncomputable def F14 (n0 : Int) (g6 : (Option Gr)) (lists7 : (List (List Int))) (want8 : (List Int)) (round9 : Int) (i12 : Int) (r0 : List Int) : Option X14 := finOf rd14 ((n0, g6, lists7, want8, round9, i12, ()), (r0, ()))
theorem F14_inv {n0 : Int} {g6 : (Option Gr)} {lists7 : (List (List Int))} {want8 : (List Int)} {round9 : Int} (I : Int → List Int → Prop) (μ : Int → List Int → Nat) (Q : X14 → Prop) (h : ∀ (i12 : Int) (r0 : List Int), I i12 r0 → Led (fun (R : Type) (k : V14 → Option R) (kx : X14 → Option R) => R14 n0 g6 lists7 want8 round9 i12 r0 k kx) (fun v => ∃ (i12' : Int) (r0' : List Int), v = ((n0, g6, lists7, want8, round9, i12', ()), (r0', ())) ∧ I i12' r0' ∧ μ i12' r0' < μ i12 r0) Q) : ∀ (i12 : Int) (r0 : List Int), I i12 r0 → ∃ z, F14 n0 g6 lists7 want8 round9 i12 r0 = some z ∧ Q z := fun i12 r0 hi => by
  refine finOf_inv (V := V14) (X := X14) (rd := rd14) (fun v => ∃ (i12' : Int) (r0' : List Int), v = ((n0, g6, lists7, want8, round9, i12', ()), (r0', ())) ∧ I i12' r0') (fun v => match v with
    | ((n0, g6, lists7, want8, round9, i12, _), (r0, _)) => μ i12 r0) Q (fun v hv => ?_) ((n0, g6, lists7, want8, round9, i12, ()), (r0, ())) ⟨i12, r0, rfl, hi⟩
  obtain ⟨i12, r0, rfl, hi⟩ := hv
  refine led_mono (h i12 r0 hi) ?_ (fun _ q => q)
  rintro v ⟨i12', r0', rfl, h1, h2⟩
  exact ⟨⟨i12', r0', rfl, h1⟩, h2⟩
noncomputable def L14 : Lp := ⟨14, ⟨[(0, none), (6, none), (7, none), (8, none), (9, none), (10, none), (12, none)]⟩, s14, x14, fun v => match v with
  | ((n0, g6, lists7, want8, round9, i12, _), (r0, _)) => F14 n0 g6 lists7 want8 round9 i12 r0⟩
theorem ends14 : Ends L14 rd14 := ends_fin (fun v => by
  obtain ⟨⟨n0, g6, lists7, want8, round9, i12, _⟩, ⟨r0, _⟩⟩ := v
  rfl)
abbrev s7 : Shape := ⟨[.v I64, .un, .un, .un, .un, .un, .v (.obj 0), .v (.list (.list I64)), .v (.list I64), .v I64, .un, .un, .un, .un, .un, .un, .un, .un, .un, .un, .un, .un, .un, .un, .un, .un, .un, .un, .un, .un, .un, .un, .un, .un, .un, .un, .un, .un, .un, .un, .un, .un, .un, .un, .un, .un, .un, .un, .un, .un, .un, .un, .un, .un, .un, .un, .un, .un, .un, .un, .un, .un, .un, .un, .un, .un], []⟩
abbrev x7 : List Way := [⟨.rt, ⟨[(4, none)]⟩, ⟨[.un, .un, .un, .un, .v .bool, .un, .un, .un, .un, .un, .un, .un, .un, .un, .un, .un, .un, .un, .un, .un, .un, .un, .un, .un, .un, .un, .un, .un, .un, .un, .un, .un, .un, .un, .un, .un, .un, .un, .un, .un, .un, .un, .un, .un, .un, .un, .un, .un, .un, .un, .un, .un, .un, .un, .un, .un, .un, .un, .un, .un, .un, .un, .un, .un, .un, .un], []⟩⟩, ⟨(.ex 0), ⟨[(0, none), (6, none), (7, none)]⟩, ⟨[.v I64, .un, .un, .un, .un, .un, .v (.obj 0), .v (.list (.list I64)), .un, .un, .un, .un, .un, .un, .un, .un, .un, .un, .un, .un, .un, .un, .un, .un, .un, .un, .un, .un, .un, .un, .un, .un, .un, .un, .un, .un, .un, .un, .un, .un, .un, .un, .un, .un, .un, .un, .un, .un, .un, .un, .un, .un, .un, .un, .un, .un, .un, .un, .un, .un, .un, .un, .un, .un, .un, .un], []⟩⟩]
abbrev V7 : Type := (Int × (Option Gr) × (List (List Int)) × (List Int) × Int × Unit) × (Unit)
abbrev X7 : Type := ((Bool × Unit) × (Unit)) ⊕ ((Int × (Option Gr) × (List (List Int)) × Unit) × (Unit))
noncomputable def R7 {R : Type} (n0 : Int) (g6 : (Option Gr)) (lists7 : (List (List Int))) (want8 : (List Int)) (round9 : Int) (k : V7 → Option R) (kx : X7 → Option R) : Option R := (if Decidable.decide (round9 < (2 : Int)) = Bool.true then (if CoresH.pre g6 = Bool.true then (if SameIntsH.pre (CoresH.fn g6).1 want8 = Bool.true then (if (!(SameIntsH.fn (CoresH.fn g6).1 want8).1) = Bool.true then kx (Sum.inl <| ((Bool.false, ()), (())))
 else (match F14 (n0) (g6) (lists7) (want8) (round9) ((0 : Int)) ((CoresH.fn g6).1) with
  | some (((n0_1, g6_1, lists7_1, want8_1, round9_1, _), _)) => k ((n0_1, g6_1, lists7_1, want8_1, IntKind.wrap .i64 (round9_1 + (1 : Int)), ()), (()))
  | none => none))
 else none)
 else none)
 else kx (Sum.inr <| ((n0, g6, lists7, ()), (()))))
noncomputable def rd7 : Rd (VO s7) (Xs x7) := fun v k kx => match v with
  | ((n0, g6, lists7, want8, round9, _), _) => R7 n0 g6 lists7 want8 round9 k kx
noncomputable def F7 (n0 : Int) (g6 : (Option Gr)) (lists7 : (List (List Int))) (want8 : (List Int)) (round9 : Int) : Option X7 := finOf rd7 ((n0, g6, lists7, want8, round9, ()), (()))
theorem F7_inv {n0 : Int} {g6 : (Option Gr)} {lists7 : (List (List Int))} {want8 : (List Int)} (I : Int → Prop) (μ : Int → Nat) (Q : X7 → Prop) (h : ∀ (round9 : Int), I round9 → Led (fun (R : Type) (k : V7 → Option R) (kx : X7 → Option R) => R7 n0 g6 lists7 want8 round9 k kx) (fun v => ∃ (round9' : Int), v = ((n0, g6, lists7, want8, round9', ()), ()) ∧ I round9' ∧ μ round9' < μ round9) Q) : ∀ (round9 : Int), I round9 → ∃ z, F7 n0 g6 lists7 want8 round9 = some z ∧ Q z := fun round9 hi => by
  refine finOf_inv (V := V7) (X := X7) (rd := rd7) (fun v => ∃ (round9' : Int), v = ((n0, g6, lists7, want8, round9', ()), ()) ∧ I round9') (fun v => match v with
    | ((n0, g6, lists7, want8, round9, _), _) => μ round9) Q (fun v hv => ?_) ((n0, g6, lists7, want8, round9, ()), ()) ⟨round9, rfl, hi⟩
  obtain ⟨round9, rfl, hi⟩ := hv
  refine led_mono (h round9 hi) ?_ (fun _ q => q)
  rintro v ⟨round9', rfl, h1, h2⟩
  exact ⟨⟨round9', rfl, h1⟩, h2⟩
noncomputable def L7 : Lp := ⟨7, ⟨[(0, none), (6, none), (7, none), (8, none), (9, none)]⟩, s7, x7, fun v => match v with
  | ((n0, g6, lists7, want8, round9, _), _) => F7 n0 g6 lists7 want8 round9⟩
theorem ends7 : Ends L7 rd7 := ends_fin (fun v => by
  obtain ⟨⟨n0, g6, lists7, want8, round9, _⟩, ⟨_⟩⟩ := v
  rfl)
abbrev s18 : Shape := ⟨[.v I64, .un, .un, .un, .un, .un, .v (.obj 0), .v (.list (.list I64)), .un, .un, .un, .un, .un, .v I64, .un, .un, .un, .un, .un, .un, .un, .un, .un, .un, .un, .un, .un, .un, .un, .un, .un, .un, .un, .un, .un, .un, .un, .un, .un, .un, .un, .un, .un, .un, .un, .un, .un, .un, .un, .un, .un, .un, .un, .un, .un, .un, .un, .un, .un, .un, .un, .un, .un, .un, .un, .un], []⟩
abbrev x18 : List Way := [⟨.rt, ⟨[(4, none)]⟩, ⟨[.un, .un, .un, .un, .v .bool, .un, .un, .un, .un, .un, .un, .un, .un, .un, .un, .un, .un, .un, .un, .un, .un, .un, .un, .un, .un, .un, .un, .un, .un, .un, .un, .un, .un, .un, .un, .un, .un, .un, .un, .un, .un, .un, .un, .un, .un, .un, .un, .un, .un, .un, .un, .un, .un, .un, .un, .un, .un, .un, .un, .un, .un, .un, .un, .un, .un, .un], []⟩⟩, ⟨(.ex 4), ⟨[]⟩, ⟨[.un, .un, .un, .un, .un, .un, .un, .un, .un, .un, .un, .un, .un, .un, .un, .un, .un, .un, .un, .un, .un, .un, .un, .un, .un, .un, .un, .un, .un, .un, .un, .un, .un, .un, .un, .un, .un, .un, .un, .un, .un, .un, .un, .un, .un, .un, .un, .un, .un, .un, .un, .un, .un, .un, .un, .un, .un, .un, .un, .un, .un, .un, .un, .un, .un, .un], []⟩⟩]
abbrev V18 : Type := (Int × (Option Gr) × (List (List Int)) × Int × Unit) × (Unit)
abbrev X18 : Type := ((Bool × Unit) × (Unit)) ⊕ ((Unit) × (Unit))
noncomputable def R18 {R : Type} (n0 : Int) (g6 : (Option Gr)) (lists7 : (List (List Int))) (v13 : Int) (k : V18 → Option R) (kx : X18 → Option R) : Option R := (if Decidable.decide (v13 < n0) = Bool.true then (if (0 : Int) ≤ v13 then (if v13 < (↑(List.length lists7) : Int) then (if Neighbours.pre g6 v13 = Bool.true then (if SameIntsH.pre (Neighbours.fn g6 v13).1 (List.getD lists7 (Int.toNat v13) []) = Bool.true then (if (!(SameIntsH.fn (Neighbours.fn g6 v13).1 (List.getD lists7 (Int.toNat v13) [])).1) = Bool.true then kx (Sum.inl <| ((Bool.false, ()), (())))
 else k ((n0, g6, lists7, IntKind.wrap .i64 (v13 + (1 : Int)), ()), (())))
 else none)
 else none)
 else none)
 else none)
 else kx (Sum.inr <| ((()), (()))))
noncomputable def rd18 : Rd (VO s18) (Xs x18) := fun v k kx => match v with
  | ((n0, g6, lists7, v13, _), _) => R18 n0 g6 lists7 v13 k kx
noncomputable def F18 (n0 : Int) (g6 : (Option Gr)) (lists7 : (List (List Int))) (v13 : Int) : Option X18 := finOf rd18 ((n0, g6, lists7, v13, ()), (()))
theorem F18_inv {n0 : Int} {g6 : (Option Gr)} {lists7 : (List (List Int))} (I : Int → Prop) (μ : Int → Nat) (Q : X18 → Prop) (h : ∀ (v13 : Int), I v13 → Led (fun (R : Type) (k : V18 → Option R) (kx : X18 → Option R) => R18 n0 g6 lists7 v13 k kx) (fun v => ∃ (v13' : Int), v = ((n0, g6, lists7, v13', ()), ()) ∧ I v13' ∧ μ v13' < μ v13) Q) : ∀ (v13 : Int), I v13 → ∃ z, F18 n0 g6 lists7 v13 = some z ∧ Q z := fun v13 hi => by
  refine finOf_inv (V := V18) (X := X18) (rd := rd18) (fun v => ∃ (v13' : Int), v = ((n0, g6, lists7, v13', ()), ()) ∧ I v13') (fun v => match v with
    | ((n0, g6, lists7, v13, _), _) => μ v13) Q (fun v hv => ?_) ((n0, g6, lists7, v13, ()), ()) ⟨v13, rfl, hi⟩
  obtain ⟨v13, rfl, hi⟩ := hv
  refine led_mono (h v13 hi) ?_ (fun _ q => q)
  rintro v ⟨v13', rfl, h1, h2⟩
  exact ⟨⟨v13', rfl, h1⟩, h2⟩
noncomputable def L18 : Lp := ⟨18, ⟨[(0, none), (6, none), (7, none), (13, none)]⟩, s18, x18, fun v => match v with
  | ((n0, g6, lists7, v13, _), _) => F18 n0 g6 lists7 v13⟩
theorem ends18 : Ends L18 rd18 := ends_fin (fun v => by
  obtain ⟨⟨n0, g6, lists7, v13, _⟩, ⟨_⟩⟩ := v
  rfl)
noncomputable def env : Env := mkEnv tab [(66, first7.sig), (70, Made7.sig), (78, Cores7.sig), (79, CoresH.sig), (53, SameIntsH.sig), (38, Neighbours.sig)] 0 [(20, [0, 1, 3, 4, 5, 6, 2, 7, 8])] [L14, L7, L18]
theorem round14 : RoundIs env (sub [true, true, true, true, true, false, true, false, false, true, false, false, true, true, true, true, false, false] code) L14 rd14 := fun R v k kx => by kernel_rfl
theorem round7 : RoundIs env (sub [true, true, true, true, true, false, true, false, false] code) L7 rd7 := fun R v k kx => by kernel_rfl
theorem round18 : RoundIs env (sub [true, true, true, true, true, true, false, true, false, false] code) L18 rd18 := fun R v k kx => by kernel_rfl
abbrev D : Type := (Bool × Unit)
noncomputable def run' (n0 : Int) (pairs1 : (List (Int × Int))) : Option D := (if first7.pre = Bool.true then (if Made7.pre n0 pairs1 = Bool.true then (if (!first7.fn.1) = Bool.false then (if Option.isNone (Made7.fn n0 pairs1).1 = Bool.true then some (first7.fn.1, ())
 else (if Cores7.pre (Made7.fn n0 pairs1).2.1 = Bool.true then (match F7 (n0) ((Made7.fn n0 pairs1).1) ((Made7.fn n0 pairs1).2.1) ((Cores7.fn (Made7.fn n0 pairs1).2.1).1) ((0 : Int)) with
  | some (Sum.inl <| ((t4_2, _), _)) => some (t4_2, ())
  | some (Sum.inr <| ((n0_3, g6_3, lists7_3, _), _)) => (match F18 (n0_3) (g6_3) (lists7_3) ((0 : Int)) with
  | some (Sum.inl <| ((t4_4, _), _)) => some (t4_4, ())
  | some (Sum.inr <| (_, _)) => some (Bool.true, ())
  | none => none)
  | none => none)
 else none))
 else some (first7.fn.1, ()))
 else none)
 else none)
noncomputable def run (d : Ds (List.map PM.ty ps)) : Option (Ds (muts ps ++ List.map PM.ty rs)) := match d with
  | (n0, pairs1, _) => run' n0 pairs1
theorem run_is : ∀ d, runF env 66 code [4] ps rs d = run d := fun d => by kernel_rfl
theorem loops : LoopsOk env code := loopsOk_of (l := [[true, true, true, true, true, false, true, false, false], [true, true, true, true, true, false, true, false, false, true, false, false, true, true, true, true, false, false], [true, true, true, true, true, true, false, true, false, false]]) (by kernel_rfl) (fun p hp => by
  simp only [List.mem_cons, List.not_mem_nil, or_false] at hp
  rcases hp with rfl | rfl | rfl
  · exact loopOk_lp (L := L7) (x := sub [true, true, true, true, true, false, true, false, false] code) (by kernel_rfl) (by simp [L7]) round7 ends7
  · exact loopOk_lp (L := L14) (x := sub [true, true, true, true, true, false, true, false, false, true, false, false, true, true, true, true, false, false] code) (by kernel_rfl) (by simp [L14]) round14 ends14
  · exact loopOk_lp (L := L18) (x := sub [true, true, true, true, true, true, false, true, false, false] code) (by kernel_rfl) (by simp [L18]) round18 ends18
  )
noncomputable def pre (n0 : Int) (pairs1 : (List (Int × Int))) : Bool := (run' n0 pairs1).isSome
noncomputable def fn (n0 : Int) (pairs1 : (List (Int × Int))) : D := match run' n0 pairs1 with
  | some x => x
  | none => default
noncomputable def sig : Sig := ⟨ps, rs, fun d => match d with
  | (n0, pairs1, _) => pre n0 pairs1, fun d => match d with
  | (n0, pairs1, _) => fn n0 pairs1⟩
theorem run_fn (n0 : Int) (pairs1 : (List (Int × Int))) (h : pre n0 pairs1 = true) : run' n0 pairs1 = some (fn n0 pairs1) := by
  unfold pre at h
  unfold fn
  cases e : run' n0 pairs1 with
  | some x => rfl
  | none => rw [e] at h; cases h
theorem is_fn (n0 : Int) (pairs1 : (List (Int × Int))) {x : D} (h : run' n0 pairs1 = some x) : pre n0 pairs1 = true ∧ fn n0 pairs1 = x := by
  unfold pre fn
  rw [h]
  exact ⟨rfl, rfl⟩
theorem sound {ρ : Obs} (hE : EnvOk Go.Proofs.Try.prog ρ env) : Sound Go.Proofs.Try.prog ρ 16 sig := sound_of (fn := Go.Proofs.Try.f16) (c := code) (res := [4]) hE (by kernel_rfl) (by kernel_rfl) (by kernel_rfl) (by kernel_rfl) (by kernel_rfl) loops rfl (show 2 ≤ 66 by decide) (fun d hd => (run_is d).trans (by
  obtain ⟨n0, pairs1, _⟩ := d
  exact run_fn n0 pairs1 hd))
theorem enters : Enters Go.Proofs.Try.prog 16 := enters_of (fn := Go.Proofs.Try.f16) (by kernel_rfl) (by kernel_rfl) (by kernel_rfl)
theorem ok {ρ : Obs} (h : ∀ p ∈ ([(66, first7.sig), (70, Made7.sig), (78, Cores7.sig), (79, CoresH.sig), (53, SameIntsH.sig), (38, Neighbours.sig)] : List (FuncId × Sig)), Enters Go.Proofs.Try.prog p.1 ∧ Sound Go.Proofs.Try.prog ρ p.1 p.2) : Enters Go.Proofs.Try.prog 16 ∧ Sound Go.Proofs.Try.prog ρ 16 sig := ⟨enters, sound (envOk_of tabOk h)⟩
theorem okR : Enters Go.Proofs.Try.prog 16 ∧ Sound Go.Proofs.Try.prog rho 16 sig := ok (fun p hp => by
  simp only [List.mem_cons, List.not_mem_nil, or_false] at hp
  rcases hp with rfl | rfl | rfl | rfl | rfl | rfl
  · exact first7.okR
  · exact Made7.okR
  · exact Cores7.okR
  · exact CoresH.okR
  · exact SameIntsH.okR
  · exact Neighbours.okR)
end HindexCores
end Go.Proofs.Ythbojpaghbbnnaa.Z
namespace Go.Proofs.Ythbojpaghbbnnaa.Z
open Go Go.RowKit Hx
set_option linter.unusedVariables false
set_option linter.unusedSimpArgs false
theorem madeOk_iff {n : Int} {l : List (Int × Int)} : madeOk n l = true ↔ (0 ≤ n ∧ n ≤ 400) ∧ l.length ≤ 4000 := by
  simp [madeOk]
theorem madeG_n (n : Int) (l : List (Int × Int)) : (madeG n l).n = n.toNat := rfl
theorem madeG_ok {n : Int} {l : List (Int × Int)} (h : madeOk n l = true) : (madeG n l).Ok := by
  obtain ⟨⟨h0, h1⟩, h2⟩ := madeOk_iff.1 h
  refine ofPairs_ok (by omega) (fun p hp => ?_)
  rcases Nat.eq_zero_or_pos n.toNat with e | e
  · rw [e] at hp; simp [mods] at hp
  · exact mods_ok e p hp
theorem nbl_listsOf {G : Gr} (hG : G.Ok) : nbl (listsOf G) = nbG G := by
  funext v
  show (listsOf G).getD v [] = up (G.nb v)
  unfold listsOf
  rcases Nat.lt_or_ge v G.n with h | h
  · simp [List.getD, h]
  · rw [Gr.nb_out hG h]
    simp [List.getD, List.getElem?_eq_none, h, up]
theorem lok_listsOf {G : Gr} (hG : G.Ok) (hn : G.n ≤ 1048576) : Lok G.n (listsOf G) where
  len := by simp [listsOf]
  N := by rw [nbl_listsOf hG]; exact nbG_ok hG
  small := hn
  rows v := by rw [nbl_listsOf hG]; exact Nat.le_trans (nbG_len v) hn
theorem Made7.yes {n : Int} {l : List (Int × Int)} (h : madeOk n l = true) : Made7.fn n l = (some (madeG n l), listsOf (madeG n l), ()) := if_pos h
theorem Made7.no {n : Int} {l : List (Int × Int)} (h : ¬ madeOk n l = true) : Made7.fn n l = (none, [], ()) := if_neg h
theorem fits.is {l : List Int} {n : Int} (h : l.length < 2 ^ 63) : fits.pre l n = true ∧ fits.fn l n = (fits.Fn l n, ()) := fits.is_fn _ _ (fits.run_eq (decide_eq_true h))
theorem fits_may {n : Int} {l : List (Int × Int)} (h : madeOk n l = true) (est : List Int) : fits.Fn est n = mayB (madeG n l) est := by
  obtain ⟨⟨h0, h1⟩, h2⟩ := madeOk_iff.1 h
  unfold fits.Fn mayB
  rw [Bool.and_comm, madeG_n]
  congr 1
  refine Bool.eq_iff_iff.2 ?_
  simp only [beq_iff_eq, decide_eq_true_eq]
  omega
theorem sameIs (a b : List Int) : SameIntsH.pre a b = true ∧ SameIntsH.fn a b = (decide (a = b), ()) := ⟨rfl, rfl⟩
theorem runs_both {G : Gr} (hG : G.Ok) (hn : G.n ≤ 1048576) {est : List Int} (h : mayB G est = true) :
    ∃ R F, (RunH.pre (some G) est = true ∧ RunH.fn (some G) est = (R, F, 0, ())) ∧ Run7.pre (listsOf G) est = true ∧ Run7.fn (listsOf G) est = (R, F, ()) := by
  obtain ⟨h1, h2⟩ := mayB_iff.1 h
  obtain ⟨r, fs, hR⟩ := runs_ex (nbs := nbG G) (clip_len (nbG G) G.n est) (clip_nonneg (getD_nonneg h2))
  have a := RunH.is hG hn h hR
  have b := Run7.is (lok_listsOf hG hn) (est := est) h1 (getD_nonneg h2) (R := r) (FS := fs) (by rw [nbl_listsOf hG]; exact hR)
  rw [nbl_listsOf hG] at b
  by_cases ha : anyTo (nbG G) G.n = true
  · rw [if_pos ha] at a b
    exact ⟨_, _, a, b⟩
  · rw [if_neg ha] at a b
    exact ⟨_, _, a, b⟩
namespace HindexRuns
set_option maxHeartbeats 4000000 in
theorem holds (n : Int) (l : List (Int × Int)) (est : List Int) (w0 : (Lit.int .i64 n).wf = true) (w1 : l.length ≤ maxLen ∧ ∀ x ∈ l, (Lit.int .i64 x.1).wf = true ∧ (Lit.int .i64 x.2).wf = true) (w2 : est.length ≤ maxLen ∧ ∀ x ∈ est, (Lit.int .i64 x).wf = true) : pre n l est = true ∧ fn n l est = (true, ()) := by
  refine is_fn _ _ _ ?_
  unfold run'
  have hmp : Made7.pre n l = true := rfl
  by_cases hm : madeOk n l = true
  · have hG := madeG_ok hm
    have hGn : (madeG n l).n ≤ 1048576 := by
      obtain ⟨⟨h0, h1⟩, h2⟩ := madeOk_iff.1 hm
      rw [madeG_n]; omega
    by_cases hl : (est.length : Int) > 16384
    · simp [first7.is.1, first7.is.2, hmp, Made7.yes hm, hl]
    · have hdl : decide ((est.length : Int) > 16384) = false := decide_eq_false hl
      have hpl : IntsO.pre est = true := decide_eq_true (by omega)
      have room : (est.length + [(-7 : Int)].length) * 8 ≤ 140737488355328 := by
        rw [show [(-7 : Int)].length = 1 from rfl]; omega
      have hw : IntKind.wrap .i64 ((est.length : Int) + 1) = (est.length : Int) + 1 := wr (by omega) (by omega)
      have le1 : (est.length : Int) ≤ (est.length : Int) + 1 := by omega
      have le2 : (est.length : Int) + 1 ≤ ((est ++ [(-7 : Int)]).length : Int) := by simp
      have tk : List.take est.length (est ++ [(-7 : Int)]) = est := by simp
      have ft := fits.is (l := est) (n := n) (by omega)
      rw [fits_may hm est] at ft
      have hn0 : Option.isNone (some (madeG n l)) = false := rfl
      by_cases hmay : mayB (madeG n l) est = true
      · obtain ⟨R, F, ⟨r1, r2⟩, t1, t2⟩ := runs_both hG hGn hmay
        rw [hmay] at ft
        simp only [first7.is.1, first7.is.2, hmp, Made7.yes hm, hn0, hdl, hpl, IntsO.fn, room, hw, le1, le2, Int.toNat_natCast, tk, r1, r2, t1, t2, (sameIs _ _).1, (sameIs _ _).2, ft.1, ft.2, (num7.is _).1, (num7.is _).2, decide_true, if_true, if_false, Bool.not_true, Bool.false_eq_true, Bool.true_eq_false]
        rfl
      · have hmay' := (Bool.not_eq_true _).mp hmay
        obtain ⟨r1, r2⟩ := RunH.no hGn hmay'
        rw [hmay'] at ft
        simp only [first7.is.1, first7.is.2, hmp, Made7.yes hm, hn0, hdl, hpl, IntsO.fn, room, hw, le1, le2, Int.toNat_natCast, tk, r1, r2, (sameIs _ _).1, (sameIs _ _).2, ft.1, ft.2, (num7.is _).1, (num7.is _).2, decide_true, if_true, if_false, Bool.not_true, Bool.not_false, Bool.false_eq_true, Bool.true_eq_false]
        rfl
  · simp [first7.is.1, first7.is.2, hmp, Made7.no hm]
end HindexRuns
end Go.Proofs.Ythbojpaghbbnnaa.Z
