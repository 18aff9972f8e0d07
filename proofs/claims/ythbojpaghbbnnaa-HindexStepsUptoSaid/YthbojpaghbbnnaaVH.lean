/- hindex.H as a plain function of the small machine. No condition. -/
import Derived.Test.YthbojpaghbbnnaaZS
import Derived.Test.YthbojpaghbbnnaaHD
namespace Go.Proofs.Ythbojpaghbbnnaa.Z
open Go Go.RowKit
set_option linter.unusedVariables false
set_option linter.unusedSimpArgs false
namespace HH
abbrev ps : List PM := [.val (.list I64), .val I64]
abbrev rs : List PM := [.val I64]
noncomputable def pre (l : List Int) (m : Int) : Bool := decide (l.length ≤ 1099511627776) && wf m
noncomputable def fn (l : List Int) (m : Int) : Int × Unit := (Hx.hOf l m, ())
noncomputable def sig : Sig := ⟨ps, rs, fun d => match d with
  | (l, m, _) => pre l m, fun d => match d with
  | (l, m, _) => fn l m⟩
theorem sound : Sound Try.prog rho 68 sig := sound21 (fun (l : List Int) (m : Int) hp w U v0 v1 hU h0 h1 => by
  have hp := (show (decide (l.length ≤ 1099511627776) && wf m) = true from hp)
  rw [Bool.and_eq_true] at hp
  obtain rfl := h1.int
  refine (H_any w (ints_in h0) (of_decide_eq_true hp.1) m (wf_iff.1 hp.2)).mono ?_
  rintro e w' ⟨rfl, hb⟩
  exact ⟨hb, _, rfl, int_out _⟩)
theorem enters : Enters Try.prog 68 := enters_of (fn := Try.f68) (by kernel_rfl) (by kernel_rfl) (by kernel_rfl)
theorem okR : Enters Try.prog 68 ∧ Sound Try.prog rho 68 sig := ⟨enters, sound⟩
end HH
end Go.Proofs.Ythbojpaghbbnnaa.Z
