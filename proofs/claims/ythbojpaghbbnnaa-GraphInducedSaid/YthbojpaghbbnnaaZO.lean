/- A statement's arguments, as the claim hands them, are plain values; and the row out of a sound plain function. Plain lemmas; no condition. -/
import Derived.Test.YthbojpaghbbnnaaZR
import Derived.ProofKit
import Derived.OpenShut
import Derived.ShutString
import Derived.ChangeOld
import Derived.Below
import Derived.SizedLaws
import Derived.Deep.Slices
import Derived.ChangeSame
namespace Go.Proofs.Ythbojpaghbbnnaa.Z
open Go Go.RowKit Go.ChangeShapes Go.WideShapes Go.ChangeAt
set_option linter.unusedVariables false
set_option linter.unusedSimpArgs false
section
variable {ρ : Obs} {H : Type} {enc : TypeId × Value → H} {P : Program} {w : World}
abbrev U0 : Nat → Prop := fun _ => False
/-- Cells that are read as of type id are a plain value, of which W holds. -/
def Opens (ρ : Obs) (enc : TypeId × Value → H) (P : Program) (w : World) (id : TypeId) (t : T) (W : t.den → Prop) : Prop :=
  ∀ (fuel : Nat) (cs : List Value) (x : DataW H × List MemPlace), DataW.trod enc P w 0 (fun _ => true) true fuel id cs = some x → ∃ y : t.den, ICs ρ U0 w t cs y ∧ W y
theorem opens_int {id : TypeId} {k : IntKind} (h : P.underlying id = some (.int k)) : Opens ρ enc P w id (.int k) (fun x : Int => (Lit.int k x).wf = true) := by
  intro fuel cs x hx
  obtain ⟨n, rfl, _, hw⟩ := DataW.trod_int h hx
  exact ⟨n, rfl, hw⟩
theorem opens_bool {id : TypeId} (h : P.underlying id = some .bool) : Opens ρ enc P w id .bool (fun _ => True) := by
  intro fuel cs x hx
  obtain ⟨b, rfl, _⟩ := DataW.trod_bool h hx
  exact ⟨b, rfl, trivial⟩
theorem opens_two {id : TypeId} {f0 f1 : Field} {t0 t1 : T} {W0 : t0.den → Prop} {W1 : t1.den → Prop} (h : P.underlying id = some (.struct #[f0, f1])) (hc : P.cellsOf id = P.cellsOf f0.type + P.cellsOf f1.type)
    (o0 : f0.offset = 0) (o1 : f1.offset = P.cellsOf f0.type) (h0 : Opens ρ enc P w f0.type t0 W0) (h1 : Opens ρ enc P w f1.type t1 W1) : Opens ρ enc P w id (.pair t0 t1) (fun x => W0 x.1 ∧ W1 x.2) := by
  intro fuel cs x hx
  obtain ⟨xs, n, _, _, hl, hxl, hf⟩ := DataW.trod_struct h hx
  have g0 := hf 0 f0 rfl
  have g1 := hf 1 f1 rfl
  rw [o0, List.drop_zero, List.getElem?_eq_getElem (by rw [hxl]; simp)] at g0
  rw [o1, List.take_of_length_le (by rw [List.length_drop]; omega), List.getElem?_eq_getElem (by rw [hxl]; simp)] at g1
  obtain ⟨y0, q0, k0⟩ := h0 _ _ _ g0
  obtain ⟨y1, q1, k1⟩ := h1 _ _ _ g1
  exact ⟨(y0, y1), ⟨_, _, (List.take_append_drop _ _).symm, q0, q1⟩, k0, k1⟩
theorem opens_three {id : TypeId} {f0 f1 f2 : Field} {t0 t1 t2 : T} {W0 : t0.den → Prop} {W1 : t1.den → Prop} {W2 : t2.den → Prop} (h : P.underlying id = some (.struct #[f0, f1, f2]))
    (hc : P.cellsOf id = P.cellsOf f0.type + P.cellsOf f1.type + P.cellsOf f2.type) (o0 : f0.offset = 0) (o1 : f1.offset = P.cellsOf f0.type) (o2 : f2.offset = P.cellsOf f0.type + P.cellsOf f1.type)
    (h0 : Opens ρ enc P w f0.type t0 W0) (h1 : Opens ρ enc P w f1.type t1 W1) (h2 : Opens ρ enc P w f2.type t2 W2) : Opens ρ enc P w id (.pair t0 (.pair t1 t2)) (fun x => W0 x.1 ∧ W1 x.2.1 ∧ W2 x.2.2) := by
  intro fuel cs x hx
  obtain ⟨xs, n, _, _, hl, hxl, hf⟩ := DataW.trod_struct h hx
  have g0 := hf 0 f0 rfl
  have g1 := hf 1 f1 rfl
  have g2 := hf 2 f2 rfl
  rw [o0, List.drop_zero, List.getElem?_eq_getElem (by rw [hxl]; simp)] at g0
  rw [o1, List.getElem?_eq_getElem (by rw [hxl]; simp)] at g1
  rw [o2, List.take_of_length_le (by rw [List.length_drop]; omega), List.getElem?_eq_getElem (by rw [hxl]; simp), ← List.drop_drop] at g2
  obtain ⟨y0, q0, k0⟩ := h0 _ _ _ g0
  obtain ⟨y1, q1, k1⟩ := h1 _ _ _ g1
  obtain ⟨y2, q2, k2⟩ := h2 _ _ _ g2
  exact ⟨(y0, y1, y2), ⟨_, _, (List.take_append_drop _ _).symm, q0, _, _, (List.take_append_drop _ _).symm, q1, q2⟩, k0, k1, k2⟩
theorem cell_spot {a : Addr} {v : Value} (h : w.cell? a = some v) : a.spot = none := by
  unfold World.cell? at h
  split at h
  · split at h
    · cases h
    · rename_i hs
      cases hsp : a.spot with
      | none => rfl
      | some x => rw [hsp] at hs; simp at hs
  · cases h
theorem add_add (a : Addr) (m n : Nat) : (a.add m).add n = a.add (m + n) := by
  unfold Addr.add
  by_cases hm : m = 0
  · subst hm
    simp
  · by_cases hn : n = 0
    · subst hn
      simp
    · rw [if_neg hm, if_neg hn, if_neg (by omega)]
      simp only [Addr.mk.injEq]
      exact ⟨trivial, by omega, trivial⟩
theorem opens_list {id e : TypeId} {t : T} {W : t.den → Prop} (h : P.underlying id = some (.slice e)) (hc : P.cellsOf e = t.size) (he : Opens ρ enc P w e t W) : Opens ρ enc P w id (.list t) (fun xs => List.length xs ≤ maxLen ∧ ∀ x ∈ xs, W x) := by
  intro fuel cs x hx
  rcases DataW.trod_slice h hx with ⟨rfl, _⟩ | ⟨a, len, cap, elems, rest, n, _, rfl, _, _, hl, hm, hlen, hel, _, _⟩
  · exact ⟨([] : List t.den), ⟨none, 0, [], rfl, Nat.zero_le _, Nat.le_refl _, rfl, fun h => absurd h (by simp)⟩, Nat.zero_le _, by simp⟩
  · have key : ∀ k, k ≤ len → ∃ (ds : List Value) (ys : List t.den), ys.length = k ∧ Els (ICs ρ U0 w t) ds ys ∧ (∀ x ∈ ys, W x) ∧ ∀ j, j < ds.length → w.cell? (a.add j) = ds[j]? := by
      intro k
      induction k with
      | zero => exact fun _ => ⟨[], [], rfl, rfl, by simp, by simp⟩
      | succ k ih =>
        intro hk
        obtain ⟨ds, ys, h1, h2, h3, h4⟩ := ih (by omega)
        have h5 := hel k (by omega)
        rw [List.getElem?_eq_getElem (by omega), Option.bind_eq_some_iff] at h5
        obtain ⟨c, h6, h7⟩ := h5
        obtain ⟨y, q, wy⟩ := he _ _ _ h7
        obtain ⟨_, hcl, hcell⟩ := World.cells?_some h6
        have hdl : ds.length = k * t.size := by rw [Els.length (fun _ _ q => ICs.length q) h2, h1]
        refine ⟨ds ++ c, ys ++ [y], by simp [h1], h2.append ⟨c, [], by simp, q, rfl⟩, fun x hx => ?_, fun j hj => ?_⟩
        · rcases List.mem_append.1 hx with hx | hx
          · exact h3 x hx
          · rw [List.mem_singleton] at hx; subst hx; exact wy
        · by_cases hj1 : j < ds.length
          · rw [List.getElem?_append_left hj1]
            exact h4 j hj1
          · rw [List.getElem?_append_right (by omega)]
            have := hcell (j - ds.length) (by rw [List.length_append] at hj; omega)
            rw [add_add, hc, ← hdl, show ds.length + (j - ds.length) = j by omega] at this
            exact this
    obtain ⟨ds, ys, h1, h2, h3, h4⟩ := key len (Nat.le_refl _)
    subst h1
    have hdl : ds.length = ys.length * t.size := Els.length (fun _ _ q => ICs.length q) h2
    refine ⟨ys, ⟨some a, cap, ds, rfl, by omega, hl, h2, fun hp => ?_⟩, by omega, h3⟩
    have hd : 0 < ds.length := by rw [hdl]; exact Nat.mul_pos hp (T.size_pos t)
    have h5 := h4 0 hd
    rw [List.getElem?_eq_getElem hd, show a.add 0 = a from rfl] at h5
    have hs := cell_spot h5
    have hb := cell_lt h5
    obtain ⟨b, off, sp⟩ := a
    obtain rfl : sp = none := hs
    refine ⟨b, off, rfl, fun w' ha j hj => ?_⟩
    rw [World.cell?_of_block (ha.block b hb (fun h => h))]
    have := h4 j hj
    by_cases hj0 : j = 0
    · subst hj0; exact this
    · unfold Addr.add at this
      rw [if_neg hj0] at this
      exact this
/-- An argument's own value. -/
theorem ird_of {id : TypeId} {t : T} {W : t.den → Prop} {v : Value} {d : DataW H} {p : List MemPlace} (h : Opens ρ enc P w id t W) (hv : v = pack t v.cells.toList) (hd : DataW.Trod enc P w 0 (fun _ => true) true id v d p) : ∃ y, IRd ρ U0 w t v y ∧ W y := by
  obtain ⟨fuel, hf⟩ := hd
  obtain ⟨y, q, hy⟩ := h _ _ _ hf
  exact ⟨y, ⟨_, hv, q⟩, hy⟩
theorem lit_wf {x : Int} (h : (Lit.int .i64 x).wf = true) : Wf x := by
  unfold Wf
  simp [Lit.wf, IntKind.min, IntKind.max, IntKind.signed, IntKind.bits] at h
  omega
end
/-- The walk of a statement: a plain function that tells true of all plain values that may be handed in. -/
theorem calls_true {P : Program} {ρ : Obs} {f : FuncId} {ps : List PM} {pre : Ds (ps.map PM.ty) → Bool} {fn : Ds (ps.map PM.ty) → Ds (muts ps ++ ([.val .bool] : List PM).map PM.ty)} (hs : Sound P ρ f ⟨ps, [.val .bool], pre, fn, false⟩) (hn : nOwn ps = 0)
    (d : Ds (ps.map PM.ty)) (hp : pre d = true) (hf : (dr (fn d)).1 = true) (w : World) (vs : List Value) (ha : ArgsOk ρ U0 w (fun _ => nilV) ps d vs 0) : Calls P f vs.toArray w fun e w' => e = .returned (.bool true) ∧ Below w.heap.size w w' := by
  have ap : Apart (nOwn ps) (fun _ => nilV) := by rw [hn]; exact apart0 _
  refine (hs d hp w U0 U0 (fun _ => nilV) vs (fun _ h => h.elim) (fun _ h => h.elim) (fun _ _ h => h) ap ?_).mono ?_
  · have e : Us U0 (nOwn ps) (fun _ => nilV) = U0 := by
      funext b
      refine propext ⟨fun h => h.elim id (fun ⟨i, hi, _⟩ => by rw [hn] at hi; exact absurd hi (Nat.not_lt_zero i)), fun h => h.elim⟩
    show ArgsOk ρ (Us U0 (nOwn ps) (fun _ => nilV)) w (fun _ => nilV) ps d vs 0
    rw [e]
    exact ha
  · rintro e w' ⟨rvs, hd', rfl, hag, _, _, _, _, hr⟩
    match rvs, hr with
    | [v], ⟨h1, _⟩ =>
      refine ⟨?_, hag.below (fun b _ hb => hb.elim id (fun ⟨i, hi, _⟩ => by
        have hi' : i < nOwn ps := hi
        rw [hn] at hi'
        exact absurd hi' (Nat.not_lt_zero i)))⟩
      obtain rfl := h1.bool
      have e : (dr (fn d)).1 = true := hf
      show Ending.returned (.bool (dr (fn d)).1) = _
      rw [e]
end Go.Proofs.Ythbojpaghbbnnaa.Z
