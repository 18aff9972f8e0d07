/- Proved: pithlaw5.GraphInduced answers true whatever is handed in. Condition: none but those of the row. -/
import Derived.Test.YthbojpaghbbnnaaRows
import Derived.Test.YthbojpaghbbnnaaFacts
import Derived.Test.YthbojpaghbbnnaaYF
import Derived.Test.YthbojpaghbbnnaaZO
import Derived.WalkKit
import Derived.ProofKit
import Derived.OpenShut
import Derived.ShutString
import Derived.ChangeOld
import Derived.Below
import Derived.SizedLaws
import Derived.Carry
namespace Go.Proofs.Ythbojpaghbbnnaa.graphInduced
open Go Go.ChangeShapes Go.WideShapes Go.ChangeAt Go.RowKit Go.Proofs.Ythbojpaghbbnnaa.Z
set_option linter.unusedVariables false
set_option maxRecDepth 100000 in
theorem lifted (os : Os) (started : os.Started) (H : Type) (enc : TypeId × Value → H) :
    ReturnsInHanded {} Try.checked os 10 .any (Rows.graphInducedSpec.pre6 enc Try.prog Try.f10 Rows.graphInducedRow.domain false) (Rows.graphInducedSpec.post enc Try.prog Try.f10 false true false false) := by
  refine returnsInHanded_of_change_sized (C := Try.checked) Facts.own started (by kernel_rfl) Try.func10
    (ChangeSpec.witness6 (enc := enc) (C := Try.checked) false ⟨#[], #[.int .i64 0, .slice none 0 0, .slice none 0 0], []⟩ 8 (by kernel_rfl) (by kernel_rfl) (by kernel_rfl) (by kernel_rfl)) ?_
  intro W base args ds gs before hval0 hW hcnd hsz0 _
  have hval : ∀ (j : Nat) t v, Try.f10.params[j]? = some t → args[j]? = some v → Value.okWide Try.prog W .any base t v := hval0
  have hW' := hW
  obtain ⟨p, q, hA0, hV, rfl, hfz, hnd⟩ := hW
  have hA : DataW.TrodAll enc Try.prog W 0 (fun _ => true) true Try.f10.params.toList args.toList ds p := hA0
  rw [Try.params10] at hA hval
  obtain ⟨v0, vs0, d0, ds0, p0, q0, hargs, rfl, rfl, h0, r0⟩ := trodAll_cons hA
  obtain ⟨v1, vs1, d1, ds1, p1, q1, rfl, rfl, rfl, h1, r1⟩ := trodAll_cons r0
  obtain ⟨v2, vs2, d2, ds2, p2, q2, rfl, rfl, rfl, h2, r2⟩ := trodAll_cons r1
  obtain ⟨rfl, rfl, rfl⟩ := trodAll_nil r2
  obtain rfl : args = #[v0, v1, v2] := by cases args; simp_all
  obtain ⟨rfl, rfl⟩ := trodVars_none hV
  have k0 := h0
  have lt0 : ∀ x ∈ p0, x.block < W.heap.size := by obtain ⟨m, hm⟩ := k0; exact DataW.trod_lt m _ _ _ hm
  obtain ⟨y0, e0⟩ := okWide_int Try.underlying3 (hval 0 3 v0 rfl rfl)
  subst e0
  obtain ⟨x0, g0, w0⟩ := ird_of (ρ := rho) (opens_int Try.underlying3) rfl h0
  have k1 := h1
  have lt1 : ∀ x ∈ p1, x.block < W.heap.size := by obtain ⟨m, hm⟩ := k1; exact DataW.trod_lt m _ _ _ hm
  obtain ⟨a1, len1, cap1, e1⟩ := okWide_slice Try.underlying23 (hval 1 23 v1 rfl rfl)
  subst e1
  obtain ⟨x1, g1, w1⟩ := ird_of (ρ := rho) (opens_list (ρ := rho) Try.underlying23 (by kernel_rfl) (opens_two (ρ := rho) Try.underlying32 (by kernel_rfl) rfl rfl (opens_int Try.underlying3) (opens_int Try.underlying3))) rfl h1
  have k2 := h2
  have lt2 : ∀ x ∈ p2, x.block < W.heap.size := by obtain ⟨m, hm⟩ := k2; exact DataW.trod_lt m _ _ _ hm
  obtain ⟨a2, len2, cap2, e2⟩ := okWide_slice Try.underlying24 (hval 2 24 v2 rfl rfl)
  subst e2
  obtain ⟨x2, g2, w2⟩ := ird_of (ρ := rho) (opens_list (ρ := rho) Try.underlying24 (by kernel_rfl) (opens_bool Try.underlying4)) rfl h2
  clear hA0 hval0
  obtain ⟨hp, hf⟩ := GraphInduced.holds x0 x1 x2 w0 w1 w2
  refine (calls_true (GraphInduced.okR).2 rfl (x0, x1, x2, ()) hp (congrArg (·.1) hf) W [.int .i64 y0, .slice a1 len1 cap1, .slice a2 len2 cap2] ⟨g0, g1, g2, trivial⟩).mono fun e W' ⟨he, bel⟩ => ?_
  subst he
  exact ⟨_, rfl, _, _, _, [], _, [], hW', trodAll_mk1 (shut_bool Try.underlying4 _), (trodAll_cons_mk (Below.trod Facts.laidOut (by kernel_rfl) (of_decide_eq_true (by kernel_rfl)) k0 bel lt0) (trodAll_cons_mk (Below.trod Facts.laidOut (by kernel_rfl) (of_decide_eq_true (by kernel_rfl)) k1 bel lt1) (trodAll_cons_mk (Below.trod Facts.laidOut (by kernel_rfl) (of_decide_eq_true (by kernel_rfl)) k2 bel lt2) trodAll_mk0))), rfl, bel.frame _, fun h => by cases h⟩
theorem joined : joinedFacts Try.prog 10 Try.f10 Rows.graphInducedSpec Rows.graphInducedRow = true :=
  Facts.joined_of Facts.heads Facts.laidOut Facts.mapsRowed Facts.stops Facts.stopKnobs Facts.stopsHeard Facts.plainKeys rfl rfl rfl rfl rfl rfl
    (by kernel_rfl) (by kernel_rfl) (by kernel_rfl) (by kernel_rfl) (by kernel_rfl) (by kernel_rfl) (by kernel_rfl)
theorem over : Rows.graphInducedRow.holds Try.pinned (OpenSpec.ofChange Rows.graphInducedSpec) :=
  OpenClaim.holds_of_wide 10 Try.f10 rfl rfl rfl rfl rfl rfl rfl ⟨rfl, rfl, rfl, rfl, rfl⟩ rfl rfl rfl rfl rfl (by kernel_rfl) Try.func10 joined
    (of_decide_eq_true (by kernel_rfl)) (by unfold Func.isWrapper; first | (rw [if_pos (by decide +kernel)]; kernel_rfl) | (rw [if_neg (by decide +kernel)]; exact ⟨rfl, rfl⟩))
    (fun os started H enc _ => lifted os started H enc)
theorem proved : Rows.GraphInducedSaid := over
#print axioms proved
end Go.Proofs.Ythbojpaghbbnnaa.graphInduced
namespace Go.Proofs.Ythbojpaghbbnnaa
/-- The row, under a short name, for the claim. -/
theorem graphInduced_holds : Rows.GraphInducedSaid := graphInduced.proved
end Go.Proofs.Ythbojpaghbbnnaa
