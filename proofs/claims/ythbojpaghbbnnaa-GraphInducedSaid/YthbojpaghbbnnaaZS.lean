/- Small functions of the statements as plain functions of the small machine: copies and comparisons of package pithref; first, num, fine, graphOf, alike of pithlaw5. No condition. -/
import Derived.Test.YthbojpaghbbnnaaZR
import Derived.Test.YthbojpaghbbnnaaN
import Derived.Test.YthbojpaghbbnnaaK
namespace Go.Proofs.Ythbojpaghbbnnaa.Z
open Go Go.RowKit
set_option linter.unusedVariables false
set_option linter.unusedSimpArgs false
section
variable {ρ : Obs} {P : Program} {f : FuncId}
theorem apart1 (v : Value) : Apart 1 (fun _ => v) := fun i j hi hj hne => absurd (show i = j by omega) hne
theorem sound01 {fr : Bool} {r : T} {pre : Bool} {fn : r.den × Unit} (h : pre = true → ∀ w U, (∀ b, U b → b < w.heap.size) → Calls P f #[] w (Res1 ρ U w r fn.1)) : Sound P ρ f ⟨[], [.val r], fun d => match d with | _ => pre, fun d => match d with | _ => fn, fr⟩ := by
  intro d hp w U0 U1 hd0 vs hu hu1 hfr hap ha
  match vs, ha with
  | [], _ =>
    refine (h hp w U1 (fun b hb => (hu1 b hb).1)).mono ?_
    rintro e w' ⟨hb, u, rfl, hr⟩
    exact ⟨[u], hd0, rfl, Ag.of_below hb _, fun _ hi => absurd hi (Nat.not_lt_zero _), fun _ hi => absurd hi (Nat.not_lt_zero _), apart0 _, trivial, hr.tr (tr0' w'), trivial⟩
/-- A copy in new memory, which is the caller's. -/
theorem sound1o {fr : Bool} {t r : T} {e : TypeId} {pre : t.den → Bool} {fn : t.den → List r.den × Unit} (enc : r.den → List Value) (he : ∀ U w x, ICs ρ U w r (enc x) x)
    (h : ∀ x, pre x = true → ∀ w U v, (∀ b, U b → b < w.heap.size) → IRd ρ U w t v x → Calls P f #[v] w fun e' w' => Below w.heap.size w w' ∧ ∃ u, e' = .returned u ∧ w'.ownsRow w.heap.size e r.size u (fn x).1.length ((fn x).1.flatMap enc)) :
    Sound P ρ f ⟨[.val t], [.own e r], fun d => match d with | (x, _) => pre x, fun d => match d with | (x, _) => fn x, fr⟩ := by
  intro d hp w U0 U1 hd0 vs hu hu1 hfr hap ha
  obtain ⟨x, _⟩ := d
  match vs, ha with
  | [v], ⟨h1, _⟩ =>
    refine (h x hp w U0 v (fun b hb => (hu b hb).1) (h1.tr (tr0 w))).mono ?_
    rintro e' w' ⟨hb, u, rfl, hr⟩
    exact ⟨[u], fun _ => u, rfl, Ag.of_below hb _, fun i hi => absurd hi (Nat.not_lt_zero i), fun i hi => absurd hi (Nat.not_lt_zero i), apart1 u, trivial, rfl, ⟨_, hr, flat_els (fun x => he _ _ x) _⟩, trivial⟩
end
theorem toC_inj : ∀ {a b : List (Int × Int × Bool)}, a.map toC = b.map toC → a = b
  | [], [], _ => rfl
  | [], _ :: _, h => by simp at h
  | _ :: _, [], h => by simp at h
  | (a1, a2, a3) :: a, (b1, b2, b3) :: b, h => by
    rw [List.map_cons, List.map_cons] at h
    injection h with h1 h2
    simp only [toC, Prod.mk.injEq] at h1
    rw [toC_inj h2, h1.1.1, h1.1.2, h1.2]
namespace SameIntsH
abbrev ps : List PM := [.val (.list I64), .val (.list I64)]
abbrev rs : List PM := [.val .bool]
noncomputable def pre (a : List Int) (b : List Int) : Bool := true
noncomputable def fn (a : List Int) (b : List Int) : Bool × Unit := (decide (a = b), ())
noncomputable def sig : Sig := ⟨ps, rs, fun d => match d with
  | (a, b, _) => pre a b, fun d => match d with
  | (a, b, _) => fn a b, false⟩
theorem sound : Sound Try.prog rho 53 sig := sound21 (fun (a : List Int) (b : List Int) hp w U U' v0 v1 hU h0 h1 => by
  refine (SameInts_any w (ints_in h0) (ints_in h1)).mono ?_
  rintro e w' ⟨rfl, hb⟩
  exact ⟨hb, _, rfl, bool_out _⟩)
theorem enters : Enters Try.prog 53 := enters_of (fn := Try.f53) (by kernel_rfl) (by kernel_rfl) (by kernel_rfl)
theorem okR : Enters Try.prog 53 ∧ Sound Try.prog rho 53 sig := ⟨enters, sound⟩
end SameIntsH
namespace SameBools
abbrev ps : List PM := [.val (.list .bool), .val (.list .bool)]
abbrev rs : List PM := [.val .bool]
noncomputable def pre (a : List Bool) (b : List Bool) : Bool := true
noncomputable def fn (a : List Bool) (b : List Bool) : Bool × Unit := (decide (a = b), ())
noncomputable def sig : Sig := ⟨ps, rs, fun d => match d with
  | (a, b, _) => pre a b, fun d => match d with
  | (a, b, _) => fn a b, false⟩
theorem sound : Sound Try.prog rho 118 sig := sound21 (fun (a : List Bool) (b : List Bool) hp w U U' v0 v1 hU h0 h1 => by
  refine (SameBools_any w (bools_in h0) (bools_in h1)).mono ?_
  rintro e w' ⟨rfl, hb⟩
  exact ⟨hb, _, rfl, bool_out _⟩)
theorem enters : Enters Try.prog 118 := enters_of (fn := Try.f118) (by kernel_rfl) (by kernel_rfl) (by kernel_rfl)
theorem okR : Enters Try.prog 118 ∧ Sound Try.prog rho 118 sig := ⟨enters, sound⟩
end SameBools
namespace SamePairs
abbrev ps : List PM := [.val (.list Pr), .val (.list Pr)]
abbrev rs : List PM := [.val .bool]
noncomputable def pre (a : List (Int × Int)) (b : List (Int × Int)) : Bool := true
noncomputable def fn (a : List (Int × Int)) (b : List (Int × Int)) : Bool × Unit := (decide (a = b), ())
noncomputable def sig : Sig := ⟨ps, rs, fun d => match d with
  | (a, b, _) => pre a b, fun d => match d with
  | (a, b, _) => fn a b, false⟩
theorem sound : Sound Try.prog rho 60 sig := sound21 (fun (a : List (Int × Int)) (b : List (Int × Int)) hp w U U' v0 v1 hU h0 h1 => by
  refine (SamePairs_any w (prs_in h0) (prs_in h1)).mono ?_
  rintro e w' ⟨rfl, hb⟩
  exact ⟨hb, _, rfl, bool_out _⟩)
theorem enters : Enters Try.prog 60 := enters_of (fn := Try.f60) (by kernel_rfl) (by kernel_rfl) (by kernel_rfl)
theorem okR : Enters Try.prog 60 ∧ Sound Try.prog rho 60 sig := ⟨enters, sound⟩
end SamePairs
namespace SameChanges
abbrev ps : List PM := [.val (.list Cg), .val (.list Cg)]
abbrev rs : List PM := [.val .bool]
noncomputable def pre (a : List (Int × Int × Bool)) (b : List (Int × Int × Bool)) : Bool := true
noncomputable def fn (a : List (Int × Int × Bool)) (b : List (Int × Int × Bool)) : Bool × Unit := (decide (a = b), ())
noncomputable def sig : Sig := ⟨ps, rs, fun d => match d with
  | (a, b, _) => pre a b, fun d => match d with
  | (a, b, _) => fn a b, false⟩
theorem sound : Sound Try.prog rho 58 sig := sound21 (fun (a : List (Int × Int × Bool)) (b : List (Int × Int × Bool)) hp w U U' v0 v1 hU h0 h1 => by
  refine (SameChanges_any w (chs_in h0) (chs_in h1)).mono ?_
  rintro e w' ⟨rfl, hb⟩
  have e : decide (a.map toC = b.map toC) = decide (a = b) := by
    by_cases h : a = b
    · subst h; simp
    · rw [decide_eq_false h, decide_eq_false (fun k => h (toC_inj k))]
  rw [e]
  exact ⟨hb, _, rfl, bool_out _⟩)
theorem enters : Enters Try.prog 58 := enters_of (fn := Try.f58) (by kernel_rfl) (by kernel_rfl) (by kernel_rfl)
theorem okR : Enters Try.prog 58 ∧ Sound Try.prog rho 58 sig := ⟨enters, sound⟩
end SameChanges
namespace IntsO
abbrev ps : List PM := [.val (.list I64)]
abbrev rs : List PM := [.own 3 I64]
noncomputable def pre (a : List Int) : Bool := decide (a.length * 8 ≤ 140737488351232)
noncomputable def fn (a : List Int) : (List Int) × Unit := (a, ())
noncomputable def sig : Sig := ⟨ps, rs, fun d => match d with
  | (a, _) => pre a, fun d => match d with
  | (a, _) => fn a, false⟩
theorem sound : Sound Try.prog rho 67 sig := sound1o (fun x : Int => [Value.int .i64 x]) (fun _ _ _ => rfl) (fun a hp w U v hU h0 => by
  refine (RInts_any w (ints_in h0) (of_decide_eq_true hp)).mono ?_
  rintro e w' ⟨hb, u, rfl, hu⟩
  refine ⟨hb, u, rfl, ?_⟩
  rw [flat_one]
  exact hu)
theorem enters : Enters Try.prog 67 := enters_of (fn := Try.f67) (by kernel_rfl) (by kernel_rfl) (by kernel_rfl)
theorem okR : Enters Try.prog 67 ∧ Sound Try.prog rho 67 sig := ⟨enters, sound⟩
end IntsO
namespace IntsV
abbrev ps : List PM := [.val (.list I64)]
abbrev rs : List PM := [.val (.list I64)]
noncomputable def pre (a : List Int) : Bool := decide (a.length * 8 ≤ 140737488351232)
noncomputable def fn (a : List Int) : (List Int) × Unit := (a, ())
noncomputable def sig : Sig := ⟨ps, rs, fun d => match d with
  | (a, _) => pre a, fun d => match d with
  | (a, _) => fn a, true⟩
theorem sound : Sound Try.prog rho 67 sig := sound11 (fun (a : List Int) hp w U U' v0 hU h0 => by
  refine (RInts_any w (ints_in h0) (of_decide_eq_true hp)).mono ?_
  rintro e w' ⟨hb, u, rfl, hu⟩
  exact ⟨hb, u, rfl, ints_out hu rfl hU⟩)
theorem enters : Enters Try.prog 67 := enters_of (fn := Try.f67) (by kernel_rfl) (by kernel_rfl) (by kernel_rfl)
theorem okR : Enters Try.prog 67 ∧ Sound Try.prog rho 67 sig := ⟨enters, sound⟩
end IntsV
namespace BoolsO
abbrev ps : List PM := [.val (.list .bool)]
abbrev rs : List PM := [.own 4 .bool]
noncomputable def pre (a : List Bool) : Bool := decide (a.length * 1 ≤ 140737488351232)
noncomputable def fn (a : List Bool) : (List Bool) × Unit := (a, ())
noncomputable def sig : Sig := ⟨ps, rs, fun d => match d with
  | (a, _) => pre a, fun d => match d with
  | (a, _) => fn a, false⟩
theorem sound : Sound Try.prog rho 117 sig := sound1o (fun x : Bool => [Value.bool x]) (fun _ _ _ => rfl) (fun a hp w U v hU h0 => by
  refine (RBools_any w (bools_in h0) (of_decide_eq_true hp)).mono ?_
  rintro e w' ⟨hb, u, rfl, hu⟩
  refine ⟨hb, u, rfl, ?_⟩
  rw [flat_one]
  exact hu)
theorem enters : Enters Try.prog 117 := enters_of (fn := Try.f117) (by kernel_rfl) (by kernel_rfl) (by kernel_rfl)
theorem okR : Enters Try.prog 117 ∧ Sound Try.prog rho 117 sig := ⟨enters, sound⟩
end BoolsO
namespace PairsO
abbrev ps : List PM := [.val (.list Pr)]
abbrev rs : List PM := [.own 32 Pr]
noncomputable def pre (a : List (Int × Int)) : Bool := decide (a.length * 16 ≤ 140737488351232)
noncomputable def fn (a : List (Int × Int)) : (List (Int × Int)) × Unit := (a, ())
noncomputable def sig : Sig := ⟨ps, rs, fun d => match d with
  | (a, _) => pre a, fun d => match d with
  | (a, _) => fn a, false⟩
theorem sound : Sound Try.prog rho 34 sig := sound1o (encP) (fun _ _ _ => ics_pr.2 rfl) (fun a hp w U v hU h0 => by
  refine (RPairs_any w (prs_in h0) (of_decide_eq_true hp)).mono ?_
  rintro e w' ⟨hb, u, rfl, hu⟩
  exact ⟨hb, u, rfl, hu⟩)
theorem enters : Enters Try.prog 34 := enters_of (fn := Try.f34) (by kernel_rfl) (by kernel_rfl) (by kernel_rfl)
theorem okR : Enters Try.prog 34 ∧ Sound Try.prog rho 34 sig := ⟨enters, sound⟩
end PairsO
namespace first5
abbrev ps : List PM := []
abbrev rs : List PM := [.val .bool]
noncomputable def pre  : Bool := true
noncomputable def fn  : Bool × Unit := (true, ())
noncomputable def sig : Sig := ⟨ps, rs, fun d => match d with
  | _ => pre, fun d => match d with
  | _ => fn, false⟩
theorem sound : Sound Try.prog rho 31 sig := sound01 (fun hp w U' hU => by
  refine (first_any w).mono ?_
  rintro e w' ⟨rfl, hb⟩
  exact ⟨hb, _, rfl, bool_out _⟩)
theorem enters : Enters Try.prog 31 := enters_of (fn := Try.f31) (by kernel_rfl) (by kernel_rfl) (by kernel_rfl)
theorem okR : Enters Try.prog 31 ∧ Sound Try.prog rho 31 sig := ⟨enters, sound⟩
end first5
namespace num5
abbrev ps : List PM := [.val I64]
abbrev rs : List PM := [.val I64]
noncomputable def pre (n : Int) : Bool := true
noncomputable def fn (n : Int) : Int × Unit := (n, ())
noncomputable def sig : Sig := ⟨ps, rs, fun d => match d with
  | (n, _) => pre n, fun d => match d with
  | (n, _) => fn n, false⟩
theorem sound : Sound Try.prog rho 44 sig := sound11 (fun (n : Int) hp w U U' v0 hU h0 => by
  obtain rfl := h0.int
  refine (num_any w n).mono ?_
  rintro e w' ⟨rfl, rfl⟩
  exact ⟨Below.refl _ _, _, rfl, int_out _⟩)
theorem enters : Enters Try.prog 44 := enters_of (fn := Try.f44) (by kernel_rfl) (by kernel_rfl) (by kernel_rfl)
theorem okR : Enters Try.prog 44 ∧ Sound Try.prog rho 44 sig := ⟨enters, sound⟩
end num5
namespace fine
abbrev ps : List PM := [.val I64, .val (.list Pr)]
abbrev rs : List PM := [.val .bool]
noncomputable def pre (n : Int) (l : List (Int × Int)) : Bool := true
noncomputable def fn (n : Int) (l : List (Int × Int)) : Bool × Unit := (fineB n l, ())
noncomputable def sig : Sig := ⟨ps, rs, fun d => match d with
  | (n, l, _) => pre n l, fun d => match d with
  | (n, l, _) => fn n l, false⟩
theorem sound : Sound Try.prog rho 32 sig := sound21 (fun (n : Int) (l : List (Int × Int)) hp w U U' v0 v1 hU h0 h1 => by
  obtain rfl := h0.int
  refine (fine_any w n (prs_in h1)).mono ?_
  rintro e w' ⟨rfl, hb⟩
  exact ⟨hb, _, rfl, bool_out _⟩)
theorem enters : Enters Try.prog 32 := enters_of (fn := Try.f32) (by kernel_rfl) (by kernel_rfl) (by kernel_rfl)
theorem okR : Enters Try.prog 32 ∧ Sound Try.prog rho 32 sig := ⟨enters, sound⟩
end fine
namespace alike
abbrev ps : List PM := [.val (.obj 0), .val (.obj 0)]
abbrev rs : List PM := [.val .bool]
noncomputable def pre (g : Option Gr) (h : Option Gr) : Bool := (g.isSome && decide ((gr g).n ≤ 4096)) && (h.isSome && decide ((gr h).n ≤ 4096))
noncomputable def fn (g : Option Gr) (h : Option Gr) : Bool × Unit := (likeB (gr g) (gr h), ())
noncomputable def sig : Sig := ⟨ps, rs, fun d => match d with
  | (g, h, _) => pre g h, fun d => match d with
  | (g, h, _) => fn g h, false⟩
theorem sound : Sound Try.prog rho 36 sig := sound21 (fun (g : Option Gr) (h : Option Gr) hp w U U' v0 v1 hU h0 h1 => by
  have hp := (show ((g.isSome && decide ((gr g).n ≤ 4096)) && (h.isSome && decide ((gr h).n ≤ 4096))) = true from hp)
  rw [Bool.and_eq_true, Bool.and_eq_true, Bool.and_eq_true] at hp
  obtain ⟨G, lo, hi, rfl, hG⟩ := pg_in h0 hp.1.1
  obtain ⟨H, lo', hi', rfl, hH⟩ := pg_in h1 hp.2.1
  obtain ⟨b, rfl⟩ := hG.ptr
  obtain ⟨b', rfl⟩ := hH.ptr
  refine (alike_any w hG hH (of_decide_eq_true hp.1.2) (of_decide_eq_true hp.2.2)).mono ?_
  rintro e w' ⟨rfl, hb⟩
  exact ⟨hb, _, rfl, bool_out _⟩)
theorem enters : Enters Try.prog 36 := enters_of (fn := Try.f36) (by kernel_rfl) (by kernel_rfl) (by kernel_rfl)
theorem okR : Enters Try.prog 36 ∧ Sound Try.prog rho 36 sig := ⟨enters, sound⟩
end alike
end Go.Proofs.Ythbojpaghbbnnaa.Z
