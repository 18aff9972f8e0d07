/- Proved: pithlaw5.GraphChanged answers true whatever is handed in. Condition: none but those of the row. -/
import Derived.Test.YthbojpaghbbnnaaRows
import Derived.Test.YthbojpaghbbnnaaFacts
import Derived.Test.YthbojpaghbbnnaaYD
import Derived.Test.YthbojpaghbbnnaaZO
import Derived.WalkKit
import Derived.ProofKit
import Derived.OpenShut
import Derived.ShutString
import Derived.ChangeOld
import Derived.Below
import Derived.SizedLaws
import Derived.Carry
namespace Go.Proofs.Ythbojpaghbbnnaa.graphChanged
open Go Go.ChangeShapes Go.WideShapes Go.ChangeAt Go.RowKit Go.Proofs.Ythbojpaghbbnnaa.Z
set_option linter.unusedVariables false
set_option maxRecDepth 100000 in
theorem lifted (os : Os) (started : os.Started) (H : Type) (enc : TypeId × Value → H) :
    ReturnsInHanded {} Try.checked os 11 .any (Rows.graphChangedSpec.pre6 enc Try.prog Try.f11 Rows.graphChangedRow.domain false) (Rows.graphChangedSpec.post enc Try.prog Try.f11 false true false false) := by
  refine returnsInHanded_of_change_sized (C := Try.checked) Facts.own started (by kernel_rfl) Try.func11
    (ChangeSpec.witness6 (enc := enc) (C := Try.checked) false ⟨#[], #[.int .i64 0, .slice none 0 0, .slice none 0 0], []⟩ 8 (by kernel_rfl) (by kernel_rfl) (by kernel_rfl) (by kernel_rfl)) ?_
  intro W base args ds gs before hval0 hW hcnd hsz0 _
  have hval : ∀ (j : Nat) t v, Try.f11.params[j]? = some t → args[j]? = some v → Value.okWide Try.prog W .any base t v := hval0
  have hW' := hW
  obtain ⟨p, q, hA0, hV, rfl, hfz, hnd⟩ := hW
  have hA : DataW.TrodAll enc Try.prog W 0 (fun _ => true) true Try.f11.params.toList args.toList ds p := hA0
  rw [Try.params11] at hA hval
  obtain ⟨v0, vs0, d0, ds0, p0, q0, hargs, rfl, rfl, h0, r0⟩ := trodAll_cons hA
  obtain ⟨v1, vs1, d1, ds1, p1, q1, rfl, rfl, rfl, h1, r1⟩ := trodAll_cons r0
  obtain ⟨v2, vs2, d2, ds2, p2, q2, rfl, rfl, rfl, h2, r2⟩ := trodAll_cons r1
  obtain ⟨rfl, rfl, rfl⟩ := trodAll_nil r2
  obtain rfl : args = #[v0, v1, v2] := by cases args; simp_all
  obtain ⟨rfl, rfl⟩ := trodVars_none hV
  have k0 := h0
  have lt0 : ∀ x ∈ p0, x.block < W.heap.size := by obtain ⟨m, hm⟩ := k0; exact DataW.trod_lt m _ _ _ hm
  obtain ⟨y0, e0⟩ := okWide_int Try.underlying3 (hval 0 3 v0 rfl rfl)
  subst e0
  obtain ⟨x0, g0, w0⟩ := ird_of (ρ := rho) (opens_int Try.underlying3) rfl h0
  have k1 := h1
  have lt1 : ∀ x ∈ p1, x.block < W.heap.size := by obtain ⟨m, hm⟩ := k1; exact DataW.trod_lt m _ _ _ hm
  obtain ⟨a1, len1, cap1, e1⟩ := okWide_slice Try.underlying23 (hval 1 23 v1 rfl rfl)
  subst e1
  obtain ⟨x1, g1, w1⟩ := ird_of (ρ := rho) (opens_list (ρ := rho) Try.underlying23 (by kernel_rfl) (opens_two (ρ := rho) Try.underlying32 (by kernel_rfl) rfl rfl (opens_int Try.underlying3) (opens_int Try.underlying3))) rfl h1
  have k2 := h2
  have lt2 : ∀ x ∈ p2, x.block < W.heap.size := by obtain ⟨m, hm⟩ := k2; exact DataW.trod_lt m _ _ _ hm
  obtain ⟨a2, len2, cap2, e2⟩ := okWide_slice Try.underlying47 (hval 2 47 v2 rfl rfl)
  subst e2
  obtain ⟨x2, g2, w2⟩ := ird_of (ρ := rho) (opens_list (ρ := rho) Try.underlying47 (by kernel_rfl) (opens_three (ρ := rho) Try.underlying46 (by kernel_rfl) rfl (by kernel_rfl) (by kernel_rfl) (opens_int Try.underlying3) (opens_int Try.underlying3) (opens_bool Try.underlying4))) rfl h2
  clear hA0 hval0
  obtain ⟨hp, hf⟩ := GraphChanged.holds x0 x1 x2 w0 w1 w2
  refine (calls_true (GraphChanged.okR).2 rfl (x0, x1, x2, ()) hp (congrArg (·.1) hf) W [.int .i64 y0, .slice a1 len1 cap1, .slice a2 len2 cap2] ⟨g0, g1, g2, trivial⟩).mono fun e W' ⟨he, bel⟩ => ?_
  subst he
  exact ⟨_, rfl, _, _, _, [], _, [], hW', trodAll_mk1 (shut_bool Try.underlying4 _), (trodAll_cons_mk (Below.trod Facts.laidOut (by kernel_rfl) (of_decide_eq_true (by kernel_rfl)) k0 bel lt0) (trodAll_cons_mk (Below.trod Facts.laidOut (by kernel_rfl) (of_decide_eq_true (by kernel_rfl)) k1 bel lt1) (trodAll_cons_mk (Below.trod Facts.laidOut (by kernel_rfl) (of_decide_eq_true (by kernel_rfl)) k2 bel lt2) trodAll_mk0))), rfl, bel.frame _, fun h => by cases h⟩
theorem joined : joinedFacts Try.prog 11 Try.f11 Rows.graphChangedSpec Rows.graphChangedRow = true :=
  Facts.joined_of Facts.heads Facts.laidOut Facts.mapsRowed Facts.stops Facts.stopKnobs Facts.stopsHeard Facts.plainKeys rfl rfl rfl rfl rfl rfl
    (by kernel_rfl) (by kernel_rfl) (by kernel_rfl) (by kernel_rfl) (by kernel_rfl) (by kernel_rfl) (by kernel_rfl)
theorem over : Rows.graphChangedRow.holds Try.pinned (OpenSpec.ofChange Rows.graphChangedSpec) :=
  OpenClaim.holds_of_wide 11 Try.f11 rfl rfl rfl rfl rfl rfl rfl ⟨rfl, rfl, rfl, rfl, rfl⟩ rfl rfl rfl rfl rfl (by kernel_rfl) Try.func11 joined
    (of_decide_eq_true (by kernel_rfl)) (by unfold Func.isWrapper; first | (rw [if_pos (by decide +kernel)]; kernel_rfl) | (rw [if_neg (by decide +kernel)]; exact ⟨rfl, rfl⟩))
    (fun os started H enc _ => lifted os started H enc)
theorem proved : Rows.GraphChangedSaid := over
#print axioms proved
end Go.Proofs.Ythbojpaghbbnnaa.graphChanged
namespace Go.Proofs.Ythbojpaghbbnnaa
/-- The row, under a short name, for the claim. -/
theorem graphChanged_holds : Rows.GraphChangedSaid := graphChanged.proved
end Go.Proofs.Ythbojpaghbbnnaa
