/- Plain laws of the functions of WA. No condition. -/
import Derived.Test.YthbojpaghbbnnaaWA
import Derived.Test.YthbojpaghbbnnaaHC
import Derived.Test.YthbojpaghbbnnaaZR
namespace Go.Proofs.Ythbojpaghbbnnaa.Z
open Go Go.RowKit
set_option linter.unusedVariables false
set_option linter.unusedSimpArgs false
namespace here
def cnt (left : List Bool) (l : List Int) : Int := (l.countP (fun x => left.getD x.toNat false) : Nat)
def C3 (l0 : (List Int)) (left1 : (List Bool)) (n5 : Int) (i6 : Int) : Option X3 :=
  if l0.length < 2 ^ 62 ∧ 0 ≤ i6 ∧ 0 ≤ n5 ∧ n5 ≤ i6 ∧ ∀ x ∈ l0, 0 ≤ x ∧ x < (left1.length : Int) then some ((n5 + cnt left1 (l0.drop i6.toNat), ()), ()) else none
theorem F3_is : ∀ (l0 : (List Int)) (left1 : (List Bool)) (n5 : Int) (i6 : Int) (z : X3), C3 l0 left1 n5 i6 = some z → F3 l0 left1 n5 i6 = some z := by
  refine F3_of C3 (fun l _ _ i => l.length - i.toNat) (fun l left n i z h => ?_)
  simp only [C3] at h
  split at h
  · rename_i hc
    injection h with h
    obtain ⟨c1, c2, c3, c4, c5⟩ := hc
    by_cases hi : i < (l.length : Int)
    · left
      have hx := c5 _ (mem_getD 0 l i.toNat (by omega))
      have hdr := drop_getD 0 l i.toNat (by omega)
      have hi1 : (i + 1).toNat = i.toNat + 1 := by omega
      have hw : IntKind.wrap .i64 (i + 1) = i + 1 := wr (by omega) (by omega)
      have hwn : IntKind.wrap .i64 (n + 1) = n + 1 := wr (by omega) (by omega)
      by_cases hb : left.getD (l.getD i.toNat 0).toNat false = true
      · refine ⟨l, left, n + 1, i + 1, by omega, ?_, fun R k kx => ?_⟩
        · simp only [C3]
          rw [if_pos ⟨c1, by omega, by omega, by omega, c5⟩, ← h, hdr, hi1]
          simp only [cnt, List.countP_cons, hb, if_true]
          congr 3
          omega
        · simp only [R3, decide_eq_true_eq, hi, c2, hx, hb, hw, hwn, if_true]
      · refine ⟨l, left, n, i + 1, by omega, ?_, fun R k kx => ?_⟩
        · simp only [C3]
          rw [if_pos ⟨c1, by omega, by omega, by omega, c5⟩, ← h, hdr, hi1]
          simp only [cnt, List.countP_cons, hb]
          rfl
        · simp only [R3, decide_eq_true_eq, hi, c2, hx, hb, hw, hwn, if_true, if_false]
          rfl
    · right
      intro R k kx
      have : l.drop i.toNat = [] := List.drop_eq_nil_of_le (by omega)
      rw [← h, this]
      simp [R3, hi, cnt]
  · cases h
def Pre (l : List Int) (left : List Bool) : Bool := decide (l.length < 2 ^ 62 ∧ ∀ x ∈ l, 0 ≤ x ∧ x < (left.length : Int))
def Fn (l : List Int) (left : List Bool) : Int := cnt left l
theorem run_eq {l : List Int} {left : List Bool} (h : Pre l left = true) : run' l left = some (Fn l left, ()) := by
  have h' : l.length < 2 ^ 62 ∧ ∀ x ∈ l, 0 ≤ x ∧ x < (left.length : Int) := of_decide_eq_true h
  unfold run'
  rw [F3_is l left 0 0 _ (if_pos ⟨h'.1, by omega, by omega, by omega, h'.2⟩)]
  simp [Fn]
end here
namespace H7
open Hx
def C7 (l0 : (List Int)) (most1 : Int) (h5 : Int) (n6 : Int) (i7 : Int) : Option X7 :=
  if l0.length < 2 ^ 62 ∧ 0 ≤ i7 ∧ 0 ≤ n6 ∧ n6 ≤ i7 then some ((l0, most1, h5, n6 + over (l0.drop i7.toNat) h5, ()), ()) else none
def C2 (l0 : (List Int)) (most1 : Int) (h5 : Int) : Option X2 :=
  if l0.length < 2 ^ 62 ∧ h5 ≤ 2 ^ 62 then some (match top l0 most1 h5.toNat with
    | 0 => Sum.inr ((), ())
    | h + 1 => Sum.inl ((((h + 1 : Nat) : Int), ()), ())) else none
theorem F7_is : ∀ (l0 : (List Int)) (most1 : Int) (h5 : Int) (n6 : Int) (i7 : Int) (z : X7), C7 l0 most1 h5 n6 i7 = some z → F7 l0 most1 h5 n6 i7 = some z := by
  refine F7_of C7 (fun l _ _ _ i => l.length - i.toNat) (fun l m h n i z hz => ?_)
  simp only [C7] at hz
  split at hz
  · rename_i hc
    injection hz with hz
    obtain ⟨c1, c2, c3, c4⟩ := hc
    by_cases hi : i < (l.length : Int)
    · left
      have hdr := drop_getD 0 l i.toNat (by omega)
      have hi1 : (i + 1).toNat = i.toNat + 1 := by omega
      have hw : IntKind.wrap .i64 (i + 1) = i + 1 := wr (by omega) (by omega)
      have hwn : IntKind.wrap .i64 (n + 1) = n + 1 := wr (by omega) (by omega)
      by_cases hb : l.getD i.toNat 0 ≥ h
      · refine ⟨l, m, h, n + 1, i + 1, by omega, ?_, fun R k kx => ?_⟩
        · simp only [C7]
          rw [if_pos ⟨c1, by omega, by omega, by omega⟩, ← hz, hdr, hi1]
          simp only [over, List.countP_cons, hb, decide_true, if_true]
          congr 6
          omega
        · simp only [R7, decide_eq_true_eq, hi, c2, hb, hw, hwn, if_true]
      · refine ⟨l, m, h, n, i + 1, by omega, ?_, fun R k kx => ?_⟩
        · simp only [C7]
          rw [if_pos ⟨c1, by omega, by omega, by omega⟩, ← hz, hdr, hi1]
          simp only [over, List.countP_cons, hb, decide_false]
          rfl
        · simp only [R7, decide_eq_true_eq, hi, c2, hb, hw, hwn, if_true, if_false]
    · right
      intro R k kx
      have : l.drop i.toNat = [] := List.drop_eq_nil_of_le (by omega)
      rw [← hz, this]
      simp [R7, hi, over]
  · cases hz
theorem F2_is : ∀ (l0 : (List Int)) (most1 : Int) (h5 : Int) (z : X2), C2 l0 most1 h5 = some z → F2 l0 most1 h5 = some z := by
  refine F2_of C2 (fun _ _ h => h.toNat) (fun l m h z hz => ?_)
  simp only [C2] at hz
  split at hz
  · rename_i hc
    injection hz with hz
    obtain ⟨c1, c2⟩ := hc
    by_cases h0 : h > 0
    · obtain ⟨g, rfl⟩ : ∃ g : Nat, h = ((g + 1 : Nat) : Int) := ⟨(h - 1).toNat, by omega⟩
      have e1 : ((g + 1 : Nat) : Int).toNat = g + 1 := by omega
      rw [e1] at hz
      have hw : IntKind.wrap .i64 (((g + 1 : Nat) : Int) - 1) = ((g : Nat) : Int) := by rw [wr (by omega) (by omega)]; omega
      have hF : F7 l m ((g + 1 : Nat) : Int) 0 0 = some ((l, m, ((g + 1 : Nat) : Int), over l ((g + 1 : Nat) : Int), ()), ()) := by
        rw [F7_is l m _ 0 0 _ (if_pos ⟨c1, by omega, by omega, by omega⟩)]
        simp
      by_cases hm : ((g + 1 : Nat) : Int) > m
      · left
        refine ⟨l, m, ((g : Nat) : Int), by omega, ?_, fun R k kx => ?_⟩
        · simp only [C2]
          rw [if_pos ⟨c1, by omega⟩, ← hz, Int.toNat_natCast, top, if_neg (by omega)]
        · simp only [R2, decide_eq_true_eq, h0, hm, hw, if_true]
      · by_cases ho : over l ((g + 1 : Nat) : Int) ≥ ((g + 1 : Nat) : Int)
        · right
          intro R k kx
          rw [← hz, top, if_pos ⟨by omega, ho⟩]
          simp only [R2, decide_eq_true_eq, h0, hm, hF, ho, if_true, if_false]
        · left
          refine ⟨l, m, ((g : Nat) : Int), by omega, ?_, fun R k kx => ?_⟩
          · simp only [C2]
            rw [if_pos ⟨c1, by omega⟩, ← hz, Int.toNat_natCast, top, if_neg (by omega)]
          · simp only [R2, decide_eq_true_eq, h0, hm, hF, ho, hw, if_true, if_false]
    · right
      intro R k kx
      have : h.toNat = 0 := by omega
      rw [← hz, this]
      simp only [R2, decide_eq_true_eq, h0, if_false, top]
  · cases hz
def Pre (l : List Int) : Bool := decide (l.length < 2 ^ 62)
def Fn (l : List Int) (most : Int) : Int := (top l most l.length : Nat)
theorem run_eq {l : List Int} {most : Int} (h : Pre l = true) : run' l most = some (Fn l most, ()) := by
  have h' : l.length < 2 ^ 62 := of_decide_eq_true h
  unfold run'
  rw [F2_is l most _ _ (if_pos ⟨h', by omega⟩), Int.toNat_natCast, Fn]
  cases top l most l.length <;> rfl
end H7
namespace SameInts
def C4 (a0 : (List Int)) (b1 : (List Int)) (i5 : Int) : Option X4 :=
  if a0.length < 2 ^ 62 ∧ 0 ≤ i5 ∧ a0.length = b1.length then some (if a0.drop i5.toNat = b1.drop i5.toNat then Sum.inr ((), ()) else Sum.inl ((false, ()), ())) else none
theorem F4_is : ∀ (a0 : (List Int)) (b1 : (List Int)) (i5 : Int) (z : X4), C4 a0 b1 i5 = some z → F4 a0 b1 i5 = some z := by
  refine F4_of C4 (fun l _ i => l.length - i.toNat) (fun a b i z hz => ?_)
  simp only [C4] at hz
  split at hz
  · rename_i hc
    injection hz with hz
    obtain ⟨c1, c2, c3⟩ := hc
    by_cases hi : i < (a.length : Int)
    · have hib : i < (b.length : Int) := by omega
      have hdr := drop_getD 0 a i.toNat (by omega)
      have hdb := drop_getD 0 b i.toNat (by omega)
      have hi1 : (i + 1).toNat = i.toNat + 1 := by omega
      have hw : IntKind.wrap .i64 (i + 1) = i + 1 := wr (by omega) (by omega)
      by_cases hb : a.getD i.toNat 0 = b.getD i.toNat 0
      · left
        refine ⟨a, b, i + 1, by omega, ?_, fun R k kx => ?_⟩
        · simp only [C4]
          rw [if_pos ⟨c1, by omega, c3⟩, ← hz, hdr, hdb, hi1, hb]
          simp only [List.cons.injEq, true_and]
        · simp only [R4, decide_eq_true_eq, hi, hib, c2, hb, hw, if_true]
          simp
      · right
        intro R k kx
        rw [← hz, hdr, hdb, if_neg (fun e => hb (by injection e))]
        simp only [R4, decide_eq_true_eq, hi, hib, c2, hw, if_true]
        rw [if_pos (by simpa using hb)]
    · right
      intro R k kx
      have e1 : a.drop i.toNat = [] := List.drop_eq_nil_of_le (by omega)
      have e2 : b.drop i.toNat = [] := List.drop_eq_nil_of_le (by omega)
      rw [← hz, e1, e2]
      simp [R4, hi]
  · cases hz
def Pre (a b : List Int) : Bool := decide (a.length < 2 ^ 62)
def Fn (a b : List Int) : Bool := decide (a = b)
theorem run_eq {a b : List Int} (h : Pre a b = true) : run' a b = some (Fn a b, ()) := by
  have h' : a.length < 2 ^ 62 := of_decide_eq_true h
  unfold run'
  by_cases hl : a.length = b.length
  · rw [if_neg (by simp [hl]), F4_is a b 0 _ (if_pos ⟨h', by omega, hl⟩)]
    by_cases hab : a = b
    · simp [Fn, hab]
    · simp [Fn, hab]
  · rw [if_pos (by simp; omega), Fn, decide_eq_false (fun e => hl (by rw [e]))]
end SameInts
namespace Ints
def C3 (l0 : (List Int)) (i4 : Int) (r0 : List Int) : Option X3 :=
  if l0.length * 8 ≤ 140737488355328 ∧ 0 ≤ i4 ∧ (r0.length : Int) = i4 ∧ i4 ≤ l0.length then some ((), (r0 ++ l0.drop i4.toNat, ())) else none
theorem F3_is : ∀ (l0 : (List Int)) (i4 : Int) (r0 : List Int) (z : X3), C3 l0 i4 r0 = some z → F3 l0 i4 r0 = some z := by
  refine F3_of C3 (fun l i _ => l.length - i.toNat) (fun l i r z hz => ?_)
  simp only [C3] at hz
  split at hz
  · rename_i hc
    injection hz with hz
    obtain ⟨c1, c2, c3, c4⟩ := hc
    by_cases hi : i < (l.length : Int)
    · left
      have hdr := drop_getD 0 l i.toNat (by omega)
      have hi1 : (i + 1).toNat = i.toNat + 1 := by omega
      have hw : IntKind.wrap .i64 (i + 1) = i + 1 := wr (by omega) (by omega)
      refine ⟨l, i + 1, r ++ [l.getD i.toNat 0], by omega, ?_, fun R k kx => ?_⟩
      · simp only [C3, List.length_append, List.length_singleton]
        rw [if_pos ⟨c1, by omega, by omega, by omega⟩, ← hz, hdr, hi1]
        simp only [List.append_assoc, List.singleton_append]
      · have hroom : (r.length + 1) * 8 ≤ 140737488355328 := by omega
        simp only [R3, decide_eq_true_eq, hi, c2, hw, hroom, List.length_singleton, if_true]
    · right
      intro R k kx
      have e1 : l.drop i.toNat = [] := List.drop_eq_nil_of_le (by omega)
      rw [← hz, e1]
      simp [R3, hi]
  · cases hz
def Pre (l : List Int) : Bool := decide (l.length * 8 ≤ 140737488355328)
def Fn (l : List Int) : List Int := l
theorem run_eq {l : List Int} (h : Pre l = true) : run' l = some (Fn l, ()) := by
  have h' : l.length * 8 ≤ 140737488355328 := of_decide_eq_true h
  unfold run'
  rw [Int.toNat_natCast, if_pos h', F3_is l 0 [] _ (if_pos ⟨h', by omega, by simp, by omega⟩)]
  simp [Fn]
end Ints
namespace fits
def C2 (est0 : (List Int)) (n1 : Int) (i5 : Int) : Option X2 :=
  if est0.length < 2 ^ 62 ∧ 0 ≤ i5 then some (if ∃ x ∈ est0.drop i5.toNat, x < 0 then Sum.inl ((false, ()), ()) else Sum.inr ((est0, n1, ()), ())) else none
theorem F2_is : ∀ (est0 : (List Int)) (n1 : Int) (i5 : Int) (z : X2), C2 est0 n1 i5 = some z → F2 est0 n1 i5 = some z := by
  refine F2_of C2 (fun l _ i => l.length - i.toNat) (fun l n i z hz => ?_)
  simp only [C2] at hz
  split at hz
  · rename_i hc
    injection hz with hz
    obtain ⟨c1, c2⟩ := hc
    by_cases hi : i < (l.length : Int)
    · have hdr := drop_getD 0 l i.toNat (by omega)
      have hi1 : (i + 1).toNat = i.toNat + 1 := by omega
      have hw : IntKind.wrap .i64 (i + 1) = i + 1 := wr (by omega) (by omega)
      by_cases hb : l.getD i.toNat 0 < 0
      · right
        intro R k kx
        rw [← hz, hdr, if_pos ⟨_, by simp, hb⟩]
        simp only [R2, decide_eq_true_eq, hi, c2, hb, if_true]
      · left
        refine ⟨l, n, i + 1, by omega, ?_, fun R k kx => ?_⟩
        · simp only [C2]
          rw [if_pos ⟨c1, by omega⟩, ← hz, hdr, hi1]
          simp only [List.mem_cons, exists_eq_or_imp, hb, false_or]
        · simp only [R2, decide_eq_true_eq, hi, c2, hb, hw, if_true, if_false]
    · right
      intro R k kx
      have e1 : l.drop i.toNat = [] := List.drop_eq_nil_of_le (by omega)
      rw [← hz, e1]
      simp [R2, hi]
  · cases hz
def Pre (l : List Int) : Bool := decide (l.length < 2 ^ 62)
def Fn (l : List Int) (n : Int) : Bool := decide (∀ x ∈ l, 0 ≤ x) && ((l.length : Int) == n)
theorem run_eq {l : List Int} {n : Int} (h : Pre l = true) : run' l n = some (Fn l n, ()) := by
  have h' : l.length < 2 ^ 62 := of_decide_eq_true h
  unfold run'
  rw [F2_is l n 0 _ (if_pos ⟨h', by omega⟩)]
  by_cases hb : ∃ x ∈ l.drop (0 : Int).toNat, x < 0
  · rw [if_pos hb]
    obtain ⟨x, h1, h2⟩ := hb
    have : ¬ ∀ x ∈ l, 0 ≤ x := fun hh => by
      have := hh x (by simpa using h1)
      omega
    simp [Fn, this]
  · rw [if_neg hb]
    have : ∀ x ∈ l, 0 ≤ x := fun x hx => by
      rcases Int.lt_or_le x 0 with q | q
      · exact absurd ⟨x, by simpa using hx, q⟩ hb
      · exact q
    have e : decide (∀ x ∈ l, 0 ≤ x) = true := decide_eq_true this
    simp only [Fn, e, Bool.true_and]
end fits
namespace est0
def Pre (l : List Int) : Bool := decide (0 < l.length ∧ l.length < 2 ^ 62)
def Fn (l : List Int) : List Int := l.take (l.length - 1)
theorem run_eq {l : List Int} (h : Pre l = true) : run' l = some (Fn l, ()) := by
  have h' : 0 < l.length ∧ l.length < 2 ^ 62 := of_decide_eq_true h
  have hw : IntKind.wrap .i64 ((l.length : Int) - 1) = ((l.length - 1 : Nat) : Int) := by rw [wr (by omega) (by omega)]; omega
  simp only [run', hw, Int.toNat_natCast]
  rw [if_pos (by omega), if_pos (by omega)]
  rfl
end est0
theorem here.okR : Enters Try.prog 131 ∧ Sound Try.prog rho 131 here.sig := here.ok (fun p hp => by
  cases hp)
theorem H7.okR : Enters Try.prog 69 ∧ Sound Try.prog rho 69 H7.sig := H7.ok (fun p hp => by
  cases hp)
theorem SameInts.okR : Enters Try.prog 53 ∧ Sound Try.prog rho 53 SameInts.sig := SameInts.ok (fun p hp => by
  cases hp)
theorem Ints.okR : Enters Try.prog 67 ∧ Sound Try.prog rho 67 Ints.sig := Ints.ok (fun p hp => by
  cases hp)
theorem fits.okR : Enters Try.prog 72 ∧ Sound Try.prog rho 72 fits.sig := fits.ok (fun p hp => by
  cases hp)
theorem est0.okR : Enters Try.prog 73 ∧ Sound Try.prog rho 73 est0.sig := est0.ok (fun p hp => by
  cases hp)
theorem Sweep7.okR : Enters Try.prog 75 ∧ Sound Try.prog rho 75 Sweep7.sig := Sweep7.ok (fun p hp => by
  simp only [List.mem_cons, List.not_mem_nil, or_false] at hp
  rcases hp with rfl
  exact H7.okR)
theorem Run7.okR : Enters Try.prog 77 ∧ Sound Try.prog rho 77 Run7.sig := Run7.ok (fun p hp => by
  simp only [List.mem_cons, List.not_mem_nil, or_false] at hp
  rcases hp with rfl
  exact Sweep7.okR)
theorem Cores7.okR : Enters Try.prog 78 ∧ Sound Try.prog rho 78 Cores7.sig := Cores7.ok (fun p hp => by
  simp only [List.mem_cons, List.not_mem_nil, or_false] at hp
  rcases hp with rfl
  exact here.okR)
end Go.Proofs.Ythbojpaghbbnnaa.Z
