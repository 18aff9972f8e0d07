/- A part of a claim: what its statement needs. No condition. -/
import Derived.Test.YthbojpaghbbnnaaDoorQbfc8969e1a
import Derived.Shelf.Spec.TrailingZeros
import Derived.Test.YthbojpaghbbnnaaDoorFacts
import Derived.Maps.Keyed
import Derived.Maps.RangeWalk
namespace Go.Proofs.YthbojpaghbbnnaaDoor.Z
open Go Go.RowKit
set_option linter.unusedVariables false
set_option linter.unusedSimpArgs false
section
variable {P : Program} {ρ : Obs} {w : World} {hd : Nat → Value} {w0 : World} {U0 : Nat → Prop} {own : Nat} {fx : Nat → Bool} {hd0 : Nat → Value} {st : St} {a : Act} {E : Env}
theorem start_ok {U : Nat → Prop} : ∀ (ps : List PM) (d : Ds (ps.map PM.ty)) (vs : List Value) (n : Nat), ArgsOk ρ U w hd0 ps d vs n → All2 (RA ρ U w hd0) (startTm ps d n) vs ∧ (∀ x ∈ startTm ps d n, ∀ j ∈ x.refs, j < n + nOwn ps) ∧ (startOb ps d n).length = nOwn ps ∧
    (∀ q, q < nOwn ps → RO ρ U w hd0 0 (atn .gone (startOb ps d n) q) (hd0 (n + q)) ∧ ∀ j ∈ (atn .gone (startOb ps d n) q).refs, j < n + nOwn ps) ∧ vs.length = ps.length
  | [], d, [], n, _ => by
    refine ⟨trivial, fun x hx => ?_, rfl, fun q hq => ?_, rfl⟩
    · simp [startTm] at hx
    · simp [nOwn] at hq
  | [], d, _ :: _, n, h => h.elim
  | .val t :: ps, d, [], n, h => h.elim
  | .own e t :: ps, d, [], n, h => h.elim
  | .bx e fs :: ps, d, [], n, h => h.elim
  | .nbx e fs :: ps, d, [], n, h => h.elim
  | .nbx e fs :: ps, d, v :: vs, n, h => h.elim
  | .cutp e t :: ps, d, [], n, h => h.elim
  | .cutp e t :: ps, d, v :: vs, n, h => by
    obtain ⟨g1, g2, g3⟩ := h
    obtain ⟨h1, h2, h3, h4, h5⟩ := start_ok ps d.2 vs (n + 1) g3
    refine ⟨⟨g1, h1⟩, fun x hx => ?_, by simp [startOb, nOwn, h3], fun q hq => ?_, by simp [h5]⟩
    · rcases List.mem_cons.1 hx with rfl | hx
      · intro j hj
        simp only [A.refs, List.mem_singleton] at hj
        simp only [nOwn]
        omega
      · intro j hj
        have := h2 x hx j hj
        simp only [nOwn]
        omega
    · cases q with
      | zero => exact ⟨by rw [Nat.add_zero]; exact g2, fun j hj => by simp [startOb, atn, Ob.refs] at hj⟩
      | succ q =>
        have := h4 q (by simp [nOwn] at hq; omega)
        rw [show n + (q + 1) = n + 1 + q by omega]
        refine ⟨this.1, fun j hj => ?_⟩
        have := this.2 j hj
        simp only [nOwn]
        omega
  | .val t :: ps, d, v :: vs, n, h => by
    obtain ⟨h1, h2, h3, h4, h5⟩ := start_ok ps d.2 vs n h.2
    refine ⟨⟨h.1, h1⟩, fun x hx => ?_, h3, h4, by simp [h5]⟩
    rcases List.mem_cons.1 hx with rfl | hx
    · intro j hj; simp [A.refs] at hj
    · exact h2 x hx
  | .own e t :: ps, d, v :: vs, n, h => by
    obtain ⟨g1, g2, g3⟩ := h
    obtain ⟨h1, h2, h3, h4, h5⟩ := start_ok ps d.2 vs (n + 1) g3
    refine ⟨⟨g1, h1⟩, fun x hx => ?_, by simp [startOb, nOwn, h3], fun q hq => ?_, by simp [h5]⟩
    · rcases List.mem_cons.1 hx with rfl | hx
      · intro j hj
        simp only [A.refs, List.mem_singleton] at hj
        simp only [nOwn]
        omega
      · intro j hj
        have := h2 x hx j hj
        simp only [nOwn]
        omega
    · cases q with
      | zero => exact ⟨by rw [Nat.add_zero, ← g1]; exact g2, fun j hj => by simp [startOb, atn, Ob.refs] at hj⟩
      | succ q =>
        have := h4 q (by simp [nOwn] at hq; omega)
        rw [show n + (q + 1) = n + 1 + q by omega]
        refine ⟨this.1, fun j hj => ?_⟩
        have := this.2 j hj
        simp only [nOwn]
        omega
  | .bx e fs :: ps, d, v :: vs, n, h => by
    obtain ⟨g1, ⟨m1, m2⟩, g3⟩ := h
    obtain ⟨h1, h2, h3, h4, h5⟩ := start_ok ps d.2 vs (n + (1 + fsN fs)) g3
    have hfo : (fsO fs d.1).length = fsN fs := fsO_len fs d.1
    have hlen : (Ob.cells e (fsA fs d.1 (n + 1)) :: fsO fs d.1).length = 1 + fsN fs := by rw [List.length_cons, hfo]; omega
    refine ⟨⟨?_, h1⟩, fun x hx => ?_, by show ((Ob.cells e (fsA fs d.1 (n + 1)) :: fsO fs d.1) ++ startOb ps d.2 (n + (1 + fsN fs))).length = _; rw [List.length_append, hlen, h3]; simp only [nOwn]; omega, fun q hq => ?_, by simp [h5]⟩
    · obtain ⟨b, vs', e1, _⟩ := m1
      exact ⟨b, e1, by rw [g1]; exact e1⟩
    · rcases List.mem_cons.1 hx with rfl | hx
      · intro j hj
        simp only [A.refs, List.mem_singleton] at hj
        simp only [nOwn]
        omega
      · intro j hj
        have := h2 x hx j hj
        simp only [nOwn]
        omega
    · have hs : startOb (.bx e fs :: ps) d n = (Ob.cells e (fsA fs d.1 (n + 1)) :: fsO fs d.1) ++ startOb ps d.2 (n + (1 + fsN fs)) := rfl
      rw [hs, atn_append, hlen]
      rcases Nat.lt_or_ge q (1 + fsN fs) with hq1 | hq1
      · rw [if_pos hq1]
        cases q with
        | zero =>
          refine ⟨by rw [Nat.add_zero]; exact m1, fun j hj => ?_⟩
          have := fsA_refs fs d.1 (n + 1) j hj
          simp only [nOwn]
          omega
        | succ q =>
          rw [show atn Ob.gone (Ob.cells e (fsA fs d.1 (n + 1)) :: fsO fs d.1) (q + 1) = atn .gone (fsO fs d.1) q from rfl]
          have m3 : RO ρ U w hd0 0 (atn .gone (fsO fs d.1) q) (hd0 (n + 1 + q)) := m2 q (by omega)
          rw [show n + (q + 1) = n + 1 + q by omega]
          refine ⟨m3, fun j hj => ?_⟩
          obtain ⟨e2, t2, xs2, f1, _⟩ := fsO_row fs d.1 q (by omega)
          rw [f1] at hj
          simp [Ob.refs] at hj
      · rw [if_neg (by omega)]
        have := h4 (q - (1 + fsN fs)) (by simp only [nOwn] at hq; omega)
        rw [show n + (1 + fsN fs) + (q - (1 + fsN fs)) = n + q by omega] at this
        refine ⟨this.1, fun j hj => ?_⟩
        have := this.2 j hj
        simp only [nOwn]
        omega
theorem mem_atn {l : List A} {P : A → Prop} (h : ∀ x ∈ l, P x) (hu : P .un) : ∀ i, P (atn .un l i) := fun i => by
  rcases Nat.lt_or_ge i l.length with h1 | h1
  · exact h _ (atn_mem .un l i h1)
  · rw [atn_out _ _ _ h1]; exact hu
theorem atn_rep (n i : Nat) : atn A.un (List.replicate n A.und) i = if i < n then .und else .un := by
  rcases Nat.lt_or_ge i n with h | h
  · rw [if_pos h, atn_getElem _ _ _ (by simpa using h)]; simp
  · rw [if_neg (by omega), atn_out _ _ _ (by simpa using h)]
theorem start_rel {ps : List PM} {d : Ds (ps.map PM.ty)} {vs : List Value} (hu : ∀ b, U0 b → b < w.heap.size ∧ ∀ i, i < nOwn ps → blk (hd0 i) ≠ some b) (hap : Apart (nOwn ps) hd0) (ha : ArgsOk ρ (Us U0 (nOwn ps) hd0) w hd0 ps d vs 0) (nt : Nat) (hnt : ps.length ≤ nt) :
    Rel ρ w U0 (nOwn ps) (fxP ps) hd0 (start nt ps d) { tmps := vs.toArray ++ Array.replicate (nt - vs.toArray.size) undef, defers := [] } w hd0 := by
  obtain ⟨h1, h2, h3, h4, h5⟩ := start_ok ps d vs 0 ha
  obtain ⟨g1, g2⟩ := all2_atn h1
  have hl : (startTm ps d 0).length = ps.length := by omega
  refine ⟨by simp [start, hl, h5], rfl, fun i v hv => ?_, fun i hi => ?_, fun i j hi hj => ?_, fun _ _ _ => rfl, fun _ _ _ hb => .inl hb, by simp [start, h3], Ag.refl _ _, hu, fun i j hj => ?_, fun i j hj => ?_⟩
  · simp only [start, h3, atn_append]
    simp only [Array.getElem?_append, List.size_toArray] at hv
    by_cases hi : i < vs.length
    · rw [if_pos hi] at hv
      rw [if_pos (by omega)]
      obtain ⟨x, q1, q2⟩ := g2 i (by omega)
      have : v = x := by
        have hv' : vs[i]? = some v := by simpa using hv
        rw [hv'] at q1
        injection q1
      rw [this]
      exact q2
    · rw [if_neg hi] at hv
      rw [if_neg (by omega), atn_rep]
      split
      · show v = undef
        simp only [Array.getElem?_replicate] at hv
        split at hv
        · injection hv with hv; exact hv.symm
        · cases hv
      · trivial
  · simp only [start, h3] at hi ⊢
    rw [if_pos hi]
    have := (h4 i hi).1
    rwa [Nat.zero_add] at this
  · simp only [start, h3] at hi hj
    exact fun hij => hap i j hi hj hij
  · simp only [start, h3, atn_append] at hj ⊢
    split at hj
    · have := mem_atn (P := fun x => ∀ j ∈ x.refs, j < 0 + nOwn ps) h2 (by simp [A.refs]) i j hj
      omega
    · rw [atn_rep] at hj
      split at hj <;> simp [A.refs] at hj
  · simp only [start, h3] at hj ⊢
    rcases Nat.lt_or_ge i (nOwn ps) with h | h
    · have := (h4 i h).2 j hj
      omega
    · rw [atn_out _ _ _ (by rw [h3]; exact h)] at hj
      simp [Ob.refs] at hj
theorem dl_cat : ∀ {a b : List T} (x : Ds a) (y : Ds b), dl (cat x y) = x
  | [], _, x, _ => rfl
  | _ :: _, _, x, y => by simp only [cat, dl, dl_cat]; rfl
theorem dr_cat : ∀ {a b : List T} (x : Ds a) (y : Ds b), dr (cat x y) = y
  | [], _, _, _ => rfl
  | _ :: _, _, x, y => by simp only [cat, dr, dr_cat]
theorem okRows_ok : ∀ {fs : List Fd} {l : List A} {n : Nat}, okRows fs l n = true → okF fs l = true ∧ ∀ q, q < fsN fs → atn 0 (rIdx fs l) q = n + q
  | [], [], _, _ => ⟨rfl, fun q hq => by simp [fsN] at hq⟩
  | [], _ :: _, _, h => by simp [okRows] at h
  | .v t :: fs, [], _, h => by simp [okRows] at h
  | .r e t mv :: fs, [], _, h => by simp [okRows] at h
  | .v t :: fs, x :: l, n, h => okRows_ok (fs := fs) (l := l) h
  | .r e t mv :: fs, x :: l, n, h => by
    cases x <;> simp only [okRows] at h <;> first | cases h | skip
    rename_i j
    simp only [Bool.and_eq_true, beq_iff_eq] at h
    obtain ⟨h0, h⟩ := h
    obtain ⟨h1, h2⟩ := okRows_ok (fs := fs) (l := l) h
    refine ⟨h1, fun q hq => ?_⟩
    cases q with
    | zero => exact h0
    | succ q =>
      have := h2 q (by simp only [fsN] at hq; omega)
      rw [show n + (q + 1) = n + 1 + q by omega]
      exact this
theorem finMuts_ok {U' : Nat → Prop} {hd' : Nat → Value} (H : Rel ρ w0 U0 own fx hd0 st a w hd) (hU : ∀ b, b < w.heap.size → U' b → Us U0 st.ob.length hd b) : ∀ (ps : List PM) (n : Nat) {d : Ds (muts ps)}, finMuts st.ob ps n = some d → (∀ p ∈ ps, ∀ e fs, p ≠ .nbx e fs) → n + nOwn ps ≤ st.ob.length → (∀ q, q < nOwn ps → hd' (n + q) = hd (n + q)) → MutsOk ρ U' w hd' ps d n
  | [], _, _, _, _, _, _ => trivial
  | .val _ :: ps, n, d, h, hp, hl, hh => finMuts_ok H hU ps n h (fun p k => hp p (by simp [k])) hl hh
  | .nbx e fs :: ps, n, d, h, hp, hl, hh => absurd rfl (hp (.nbx e fs) (by simp) e fs)
  | .own e t :: ps, n, d, h, hp, hl, hh => by
    simp only [finMuts] at h
    split at h
    · rename_i e' u l hat
      split at h
      · rename_i hu
        obtain ⟨rfl, rfl⟩ := hu
        split at h
        · rename_i ys hys
          cases h
          have hro := H.ob n (row_lt hat)
          rw [hat] at hro
          have ht : Tr (Us U0 st.ob.length hd) w U' w := Tr.of (V := fun _ => False) (Ag.refl _ _) (fun _ _ h => h.elim) hU
          refine ⟨?_, finMuts_ok H hU ps (n + 1) hys (fun p k => hp p (by simp [k])) (by simp only [nOwn] at hl; omega) (fun q hq => by rw [show n + 1 + q = n + (q + 1) by omega]; exact hh (q + 1) (by simp [nOwn]; omega))⟩
          have := hh 0 (by simp [nOwn])
          rw [Nat.add_zero] at this
          rw [this]
          exact ro_row hro (fun b _ => ⟨rfl, Nat.zero_le _⟩) (Tk.of ht)
        · cases h
      · cases h
    · cases h
  | .cutp e t :: ps, n, d, h, hp, hl, hh => by
    simp only [finMuts] at h
    split at h
    · rename_i e' u l hat
      split at h
      · rename_i hu
        obtain ⟨rfl, rfl⟩ := hu
        split at h
        · rename_i ys hys
          cases h
          have hro := H.ob n (row_lt hat)
          rw [hat] at hro
          have ht : Tr (Us U0 st.ob.length hd) w U' w := Tr.of (V := fun _ => False) (Ag.refl _ _) (fun _ _ h => h.elim) hU
          refine ⟨?_, finMuts_ok H hU ps (n + 1) hys (fun p k => hp p (by simp [k])) (by simp only [nOwn] at hl; omega) (fun q hq => by rw [show n + 1 + q = n + (q + 1) by omega]; exact hh (q + 1) (by simp [nOwn]; omega))⟩
          have := hh 0 (by simp [nOwn])
          rw [Nat.add_zero] at this
          rw [this]
          exact ro_row hro (fun b _ => ⟨rfl, Nat.zero_le _⟩) (Tk.of ht)
        · cases h
      · cases h
    · cases h
  | .bx e fs :: ps, n, d, h, hp, hl, hh => by
    simp only [finMuts] at h
    split at h
    · rename_i e' l hat
      split at h
      · rename_i hc
        obtain ⟨rfl, hrw⟩ := hc
        split at h
        · rename_i y ys hy hys
          cases h
          obtain ⟨ok, hix⟩ := okRows_ok hrw
          have hro := H.ob n (ob_lt (by rw [hat]; simp))
          rw [hat] at hro
          have ht : Tr (Us U0 st.ob.length hd) w U' w := Tr.of (V := fun _ => False) (Ag.refl _ _) (fun _ _ h => h.elim) hU
          have h0 := hh 0 (by simp only [nOwn]; omega)
          rw [Nat.add_zero] at h0
          have hr : ∀ q, q < fsN fs → hd' (n + 1 + q) = hd (atn 0 (rIdx fs l) q) := fun q hq => by
            have := hh (q + 1) (by simp only [nOwn]; omega)
            rw [hix q hq, show n + 1 + q = n + (q + 1) by omega]
            exact this
          refine ⟨⟨?_, fun q hq => ?_⟩, finMuts_ok H hU ps (n + (1 + fsN fs)) hys (fun p k => hp p (by simp [k])) (by simp only [nOwn] at hl; omega) (fun q hq => by rw [Nat.add_assoc]; exact hh (1 + fsN fs + q) (by simp only [nOwn]; omega))⟩
          · rw [h0]
            exact ro_cells hro (fun b _ => Nat.zero_le _) (by rw [fsA_len, okF_alen ok]) (readF_ra ht (n + 1) hy hr)
          · rw [readF_row ok hy q hq, hr q hq]
            have hro2 := H.ob (atn 0 (rIdx fs l) q) (by rw [hix q hq]; simp only [nOwn] at hl; omega)
            obtain ⟨e3, t3, xs3, f1, _⟩ := fsO_row fs y q hq
            rw [readF_row ok hy q hq] at f1
            rw [f1] at hro2 ⊢
            exact ro_row hro2 (fun b _ => ⟨rfl, Nat.zero_le _⟩) (Tk.of ht)
        · cases h
      · cases h
    · cases h
/-- Where the objects that are handed back lie: their numbers; none: nowhere. -/
def rowIx : List Fd → List A → List (Option Nat)
  | .v _ :: fs, _ :: l => rowIx fs l
  | .r _ _ _ :: fs, .row j :: l => some j :: rowIx fs l
  | .r _ _ _ :: fs, _ :: l => none :: rowIx fs l
  | _, _ => []
def resIx (ob : List Ob) : List PM → List A → List (Option Nat)
  | .own _ _ :: ps, .row i :: xs => some i :: resIx ob ps xs
  | .cutp _ _ :: ps, .cut i _ _ :: xs => some i :: resIx ob ps xs
  | .cutp _ _ :: ps, _ :: xs => none :: resIx ob ps xs
  | .own _ _ :: ps, _ :: xs => none :: resIx ob ps xs
  | .nbx _ fs :: ps, .box i _ :: xs => some i :: (rowIx fs (cellsOf ob i) ++ resIx ob ps xs)
  | .nbx _ fs :: ps, _ :: xs => List.replicate (1 + fsN fs) none ++ resIx ob ps xs
  | _ :: ps, _ :: xs => resIx ob ps xs
  | _, _ => []
def hdOf (hd : Nat → Value) : Option Nat → Value
  | some i => hd i
  | none => nilV
theorem rowIx_some : ∀ (fs : List Fd) (l : List A), (rowIx fs l).filterMap id = rIdx fs l
  | [], l => by cases l <;> rfl
  | .v t :: fs, [] => rfl
  | .r e t mv :: fs, [] => rfl
  | .v t :: fs, x :: l => rowIx_some fs l
  | .r e t mv :: fs, x :: l => by
    cases x <;> simp [rowIx, rIdx, rowIx_some fs l]
theorem resIx_some {ob : List Ob} : ∀ (rs : List PM) (xs : List A), (resIx ob rs xs).filterMap id = ownRes ob rs xs
  | [], xs => by cases xs <;> rfl
  | p :: rs, [] => by cases p <;> rfl
  | .val t :: rs, x :: xs => by
    have e1 : resIx ob (.val t :: rs) (x :: xs) = resIx ob rs xs := by cases x <;> rfl
    have e2 : ownRes ob (.val t :: rs) (x :: xs) = ownRes ob rs xs := by cases x <;> rfl
    rw [e1, e2, resIx_some rs xs]
  | .bx e fs :: rs, x :: xs => by
    have e1 : resIx ob (.bx e fs :: rs) (x :: xs) = resIx ob rs xs := by cases x <;> rfl
    have e2 : ownRes ob (.bx e fs :: rs) (x :: xs) = ownRes ob rs xs := by cases x <;> rfl
    rw [e1, e2, resIx_some rs xs]
  | .own e t :: rs, x :: xs => by
    cases x <;> simp [resIx, ownRes, resIx_some rs xs]
  | .cutp e t :: rs, x :: xs => by
    cases x <;> simp [resIx, ownRes, resIx_some rs xs]
  | .nbx e fs :: rs, x :: xs => by
    have hrep : ∀ m, List.filterMap id (List.replicate m (none : Option Nat)) = [] := fun m => by induction m <;> simp_all [List.replicate_succ]
    cases x <;> simp [resIx, ownRes, resIx_some rs xs, rowIx_some]
theorem ix_mem : ∀ {L : List (Option Nat)} {q i : Nat}, atn none L q = some i → i ∈ L.filterMap id
  | [], q, i, h => by cases q <;> simp [atn] at h
  | x :: L, 0, i, h => by
    simp only [atn] at h
    subst h
    simp
  | x :: L, q + 1, i, h => by
    have := ix_mem (L := L) (q := q) h
    simp only [List.filterMap_cons]
    split
    · exact this
    · exact List.mem_cons_of_mem _ this
theorem ix_inj : ∀ {L : List (Option Nat)}, nodupB (L.filterMap id) = true → ∀ p q i, atn none L p = some i → atn none L q = some i → p = q
  | [], _, p, q, i, h, _ => by cases p <;> simp [atn] at h
  | x :: L, hn, p, q, i, h1, h2 => by
    cases x with
    | none =>
      cases p with
      | zero => simp [atn] at h1
      | succ p => cases q with
        | zero => simp [atn] at h2
        | succ q => rw [ix_inj (L := L) (by simpa using hn) p q i h1 h2]
    | some j =>
      obtain ⟨n1, n2⟩ := nodupB_cons (x := j) (l := L.filterMap id) (by simpa using hn)
      cases p with
      | zero => cases q with
        | zero => rfl
        | succ q =>
          simp only [atn] at h1 h2
          injection h1 with h1
          subst h1
          exact absurd (ix_mem h2) n1
      | succ p => cases q with
        | zero =>
          simp only [atn] at h1 h2
          injection h2 with h2
          subst h2
          exact absurd (ix_mem h1) n1
        | succ q => rw [ix_inj (L := L) n2 p q i h1 h2]
theorem readG_len {ob : List Ob} : ∀ {fs : List Fd} {l : List A} {y : (fsT fs).den}, readF true ob fs l = some y → (rowIx fs l).length = fsN fs
  | [], [], _, _ => rfl
  | [], _ :: _, _, h => by simp [readF] at h
  | .v t :: fs, [], _, h => by simp [readF] at h
  | .r e t mv :: fs, [], _, h => by simp [readF] at h
  | .v t :: fs, x :: l, y, h => by
    simp only [readF] at h
    split at h
    · rename_i y1 y2 h1 h2
      exact readG_len (fs := fs) (l := l) h2
    · cases h
  | .r e t mv :: fs, x :: l, y, h => by
    cases x with
    | row j =>
      simp only [readF] at h
      split at h
      · split at h
        · split at h
          · rename_i ys hys; simp [rowIx, fsN, readG_len (fs := fs) hys]
          · cases h
        · cases h
      · cases h
    | nls =>
      simp only [readF, if_true] at h
      split at h
      · rename_i ys hys; simp [rowIx, fsN, readG_len (fs := fs) hys]
      · cases h
    | _ => simp [readF] at h
/-- A new struct, as the caller sees it. -/
theorem readG_ok {U' : Nat → Prop} {hd' : Nat → Value} (H : Rel ρ w0 U0 own fx hd0 st a w hd) (ht : Tr (Us U0 st.ob.length hd) w U' w) : ∀ {fs : List Fd} {l : List A} {y : (fsT fs).den} (m : Nat), readF true st.ob fs l = some y → (∀ q, q < fsN fs → hd' (m + q) = hdOf hd (atn none (rowIx fs l) q)) → (∀ j ∈ rIdx fs l, own ≤ j) →
    l.length = fs.length ∧ (∀ i u, RA ρ (Us U0 st.ob.length hd) w hd (atn .un l i) u → RA ρ U' w hd' (atn .un (fsA fs y m) i) u) ∧ ∀ q, q < fsN fs → RO ρ U' w hd' w0.heap.size (atn .gone (fsO fs y) q) (hd' (m + q))
  | [], [], _, _, _, _, _ => ⟨rfl, fun i u h => by cases i <;> exact h, fun q hq => by simp [fsN] at hq⟩
  | [], _ :: _, _, _, h, _, _ => by simp [readF] at h
  | .v t :: fs, [], _, _, h, _, _ => by simp [readF] at h
  | .r e t mv :: fs, [], _, _, h, _, _ => by simp [readF] at h
  | .v t :: fs, x :: l, y, m, h, hq, ho => by
    simp only [readF] at h
    split at h
    · rename_i y1 y2 h1 h2
      injection h with h
      subst h
      obtain ⟨g2, g3, g4⟩ := readG_ok H ht m h2 hq ho
      refine ⟨by simp [g2], fun i u hr => ?_, g4⟩
      cases i with
      | zero => exact IRd.tr (toV0 h1 hr) ht
      | succ i => exact g3 i u hr
    · cases h
  | .r e t mv :: fs, x :: l, y, m, h, hq, ho => by
    have hq' : ∀ (z : Option Nat), rowIx (.r e t mv :: fs) (x :: l) = z :: rowIx fs l → hd' m = hdOf hd z ∧ ∀ q, q < fsN fs → hd' (m + 1 + q) = hdOf hd (atn none (rowIx fs l) q) := fun z e1 => by
      rw [e1] at hq
      refine ⟨hq 0 (by simp [fsN]), fun q hq1 => ?_⟩
      have := hq (q + 1) (by simp only [fsN]; omega)
      rw [show m + 1 + q = m + (q + 1) by omega]
      exact this
    cases x with
    | row j =>
      obtain ⟨h0, hq2⟩ := hq' (some j) rfl
      simp only [readF] at h
      split at h
      · rename_i e' u' xs hat
        split at h
        · rename_i hh
          obtain ⟨rfl, rfl⟩ := hh
          split at h
          · rename_i ys hys
            injection h with h
            subst h
            obtain ⟨g2, g3, g4⟩ := readG_ok H ht (m + 1) hys hq2 (fun i hi => ho i (by simp [rIdx, hi]))
            refine ⟨by simp [g2], fun i u hr => ?_, fun q hq1 => ?_⟩
            · cases i with
              | zero => show u = hd' m; rw [h0]; exact hr
              | succ i => exact g3 i u hr
            · cases q with
              | zero =>
                rw [Nat.add_zero, h0]
                have hro := H.ob j (row_lt hat)
                have hoj := ho j (by simp [rIdx])
                rw [hat, if_neg (by omega)] at hro
                exact ro_row hro (fun b hb => ⟨rfl, (hro.blk_ge hb).1⟩) (Tk.of ht)
              | succ q =>
                have := g4 q (by simp only [fsN] at hq1; omega)
                rw [show m + (q + 1) = m + 1 + q by omega]
                exact this
          · cases h
        · cases h
      · cases h
    | nls =>
      obtain ⟨h0, hq2⟩ := hq' none rfl
      simp only [readF, if_true] at h
      split at h
      · rename_i ys hys
        injection h with h
        subst h
        obtain ⟨g2, g3, g4⟩ := readG_ok H ht (m + 1) hys hq2 (fun i hi => ho i (by simp [rIdx, hi]))
        refine ⟨by simp [g2], fun i u hr => ?_, fun q hq1 => ?_⟩
        · cases i with
          | zero => show u = hd' m; rw [h0]; exact hr
          | succ i => exact g3 i u hr
        · cases q with
          | zero =>
            rw [Nat.add_zero, h0]
            exact ⟨[], World.ownsRow_nil _ _ _ _, rfl⟩
          | succ q =>
            have := g4 q (by simp only [fsN] at hq1; omega)
            rw [show m + (q + 1) = m + 1 + q by omega]
            exact this
      · cases h
    | _ => simp [readF] at h
def outRowsOf (ob : List Ob) : A → List Nat
  | .row i => [i]
  | .cut i _ _ => [i]
  | .box i _ => i :: (cellsOf ob i).flatMap A.rowOf
  | _ => []
/-- What a struct holds that a pointer leads to for ever: it stays, whoever was lent what. -/
theorem toS_ird (H : Rel ρ w0 U0 own fx hd0 st a w hd) {u : T} {x : A} {v : Value} {y : u.den} (h : A.toS st.ob u x = some y) (hx : RA ρ (Us U0 st.ob.length hd) w hd x v) {U' : Nat → Prop} (hU : ∀ b, b < w.heap.size → U' b → Us U0 st.ob.length hd b)
    (hrow : ∀ i ∈ x.rowOf, ∀ b, blk (hd i) = some b → ¬ Orp U' ρ.V b) : IRd ρ (Orp U' ρ.V) w u v y := by
  have ks : ∀ w'', Ag (Orp (Orp U' ρ.V) ρ.V) w w'' → Ag (Orp (Us U0 st.ob.length hd) ρ.V) w w'' := (Ag.refl (fun _ => False) w).back (fun _ _ h => h.elim) (fun b hb hu => hu.elim (fun hu => hu.imp (hU b hb) id) .inr)
  unfold A.toS at h
  split at h
  · rename_i hs
    cases x with
    | v t z =>
      simp only [A.toV] at h
      split at h
      · rename_i e
        subst e
        cases h
        simp only [A.strongB, Bool.not_eq_true'] at hs
        exact IRd.to rfl hx (.inr hs) ks
      · cases h
    | nls =>
      simp only [A.toV] at h
      split at h
      · cases h
        exact ⟨[.slice none 0 0], hx, none, 0, [], rfl, Nat.zero_le _, Nat.le_refl _, rfl, fun h => absurd h (by simp)⟩
      · cases h
    | nlp =>
      simp only [A.toV] at h
      split at h
      · cases h
        exact ⟨[.pointer none], hx, _, rfl, rfl⟩
      · cases h
        exact ⟨[.pointer none], hx, _, rfl, rfl⟩
      · cases h
    | row i =>
      simp only [A.toV] at h
      split at h
      · rename_i e t xs hat
        split at h
        · rename_i hu
          subst hu
          cases h
          have hro := H.ob i (row_lt hat)
          rw [hat] at hro
          simp only [A.strongB, hat, Bool.not_eq_true'] at hs
          have e1 : v = hd i := hx
          subst e1
          exact (row_ird hro ⟨.inr hs, ks⟩ (hrow i (by simp [A.rowOf]))).1
        · cases h
      · cases h
    | cut i nn f =>
      simp only [A.toV] at h
      split at h
      · rename_i e t xs hat
        split at h
        · rename_i hu
          subst hu
          cases h
          have hro := H.ob i (row_lt hat)
          rw [hat] at hro
          simp only [A.strongB, hat, Bool.not_eq_true'] at hs
          obtain ⟨a0, l, c, c', e1, e2, e3, e4, _⟩ := hx
          subst e3
          exact (row_ird hro ⟨.inr hs, ks⟩ (hrow i (by simp [A.rowOf]))).2 nn a0 l c c' e1 e2 e4
        · cases h
      · cases h
    | _ => simp [A.toV] at h
  · cases h
theorem gathR_ok {U' : Nat → Prop} (H : Rel ρ w0 U0 own fx hd0 st a w hd) (hU : ∀ b, b < w.heap.size → U' b → Us U0 st.ob.length hd b) {l : List A} {vs : List Value} (h : ∀ i, i < l.length → ∃ x, vs[i]? = some x ∧ RA ρ (Us U0 st.ob.length hd) w hd (atn .un l i) x) (hr : ∀ j ∈ l.flatMap A.rowOf, ∀ b, blk (hd j) = some b → ¬ Orp U' ρ.V b) : ∀ {t : T} {c : Nat} {y : t.den}, gathR st.ob l t c = some y → ∃ ds, ICs ρ (Orp U' ρ.V) w t ds y ∧ ∀ j, j < t.size → vs[c + j]? = ds[j]? := by
  have one : ∀ {u : T}, u.isPair = false → ∀ {c : Nat} {y : u.den}, A.toS st.ob u (atn .un l c) = some y → ∃ ds, ICs ρ (Orp U' ρ.V) w u ds y ∧ ∀ j, j < u.size → vs[c + j]? = ds[j]? := fun {u} hp {c} {y} e => by
    have hc : c < l.length := by
      rcases Nat.lt_or_ge c l.length with q | q
      · exact q
      · rw [atn_out _ _ _ q] at e
        cases u <;> simp [A.toS, A.toV] at e
    obtain ⟨x, hx, hra⟩ := h c hc
    obtain ⟨cs, rfl, hi⟩ := toS_ird H e hra hU (fun i hi => hr i (List.mem_flatMap.2 ⟨_, atn_mem .un l c hc, hi⟩))
    obtain ⟨v, rfl, _⟩ := ICs.one hp hi
    have hs := T.size_one _ hp
    refine ⟨[v], hi, fun j hj => ?_⟩
    obtain rfl : j = 0 := by omega
    rw [pack_one hp] at hx
    simpa using hx
  intro t
  induction t with
  | pair a b iha ihb =>
    intro c y e
    unfold gathR at e
    split at e
    · rename_i x1 x2 h1 h2
      injection e with e
      subst e
      obtain ⟨d1, i1, j1⟩ := iha h1
      obtain ⟨d2, i2, j2⟩ := ihb h2
      have l1 := ICs.length i1
      have hs : (T.pair a b).size = a.size + b.size := rfl
      refine ⟨d1 ++ d2, ⟨d1, d2, rfl, i1, i2⟩, fun j hj => ?_⟩
      by_cases hj1 : j < a.size
      · rw [List.getElem?_append_left (by omega)]
        exact j1 j hj1
      · rw [List.getElem?_append_right (by omega), l1, ← j2 (j - a.size) (by omega), show c + a.size + (j - a.size) = c + j by omega]
    · cases e
  | one t ih => intro c y e; exact ih e
  | int k => intro c y e; exact one rfl e
  | bool => intro c y e; exact one rfl e
  | flt => intro c y e; exact one rfl e
  | list t _ => intro c y e; exact one rfl e
  | obj n => intro c y e; exact one rfl e
  | ptr t _ => intro c y e; exact one rfl e
theorem gathR_nil (ob : List Ob) : ∀ (t : T) (c : Nat), gathR ob [] t c = none := by
  intro t
  induction t with
  | pair a b iha ihb => intro c; unfold gathR; rw [iha]
  | one t ih => intro c; exact ih c
  | _ => intro c; cases c <;> rfl
theorem outV_box {ob : List Ob} {u : T} {x : A} {y : u.den} (h : outV ob u x = some y) : A.toV ob u x = some y ∨ ∃ t i, ∃ hu : u = T.ptr t, ∃ z, x = .box i 0 ∧ gathR ob (cellsOf ob i) t 0 = some z ∧ T.cast hu y = (some z : Option t.den) := by
  cases u with
  | ptr t =>
    cases x with
    | box i k =>
      cases k with
      | zero =>
        simp only [outV] at h
        split at h
        · rename_i z hz
          injection h with h
          subst h
          exact .inr ⟨t, i, rfl, z, rfl, hz, rfl⟩
        · cases h
      | succ k => exact .inl h
    | _ => exact .inl h
  | _ => exact .inl h
/-- What is handed back to be read for ever. -/
theorem outV_ird {U' : Nat → Prop} (H : Rel ρ w0 U0 own fx hd0 st a w hd) (hU : ∀ b, b < w.heap.size → U' b → Us U0 st.ob.length hd b) {u : T} {x : A} {v : Value} {y : u.den} (h : outV st.ob u x = some y) (hx : RA ρ (Us U0 st.ob.length hd) w hd x v) (hr : ∀ j ∈ outRowsOf st.ob x, ∀ b, blk (hd j) = some b → ¬ Orp U' ρ.V b) : IRd ρ U' w u v y := by
  rcases outV_box h with h | ⟨t, i, rfl, z, rfl, hz, e0⟩
  · exact toV_ird H h hx hU (fun i hi b hb hu => hr i (by cases x <;> simp [A.rowOf] at hi <;> subst hi <;> simp [outRowsOf]) b hb (.inl hu))
  · have e0 : y = some z := e0
    subst e0
    obtain ⟨b, e1, e2⟩ := hx
    have hi : i < st.ob.length := by
      rcases Nat.lt_or_ge i st.ob.length with q | q
      · exact q
      · have : cellsOf st.ob i = [] := by unfold cellsOf; rw [atn_out _ _ _ q]
        rw [this, gathR_nil] at hz
        cases hz
    have hro := H.ob i hi
    cases hat : atn Ob.gone st.ob i with
    | cells e l =>
      rw [hat] at hro
      obtain ⟨b', vs, q1, q2, q3, q4, q5⟩ := hro
      rw [e1] at q1
      injection q1 with q1
      injection q1 with q1
      injection q1 with q1
      subst q1
      rw [cells_of hat] at hz
      obtain ⟨ds, g1, g2⟩ := gathR_ok H hU (fun i hi => by
        obtain ⟨x, x1, _, x3⟩ := q5 i hi
        exact ⟨x, x1, x3⟩) (fun j hj => hr j (by simp only [outRowsOf, cells_of hat]; exact List.mem_cons_of_mem _ hj)) hz
      refine ⟨[v], rfl, v, rfl, b, 0, ds, e2, g1, fun w' hw' j hj => ?_⟩
      have hb : w'.heap[b]? = w.heap[b]? := hw'.block b (Array.getElem?_eq_some_iff.1 q3).1 (hr i (by simp [outRowsOf]) b (by rw [e1]; rfl))
      rw [← g2 j hj]
      simp [World.cell?, hb, q3]
    | row e t xs => rw [hat] at hro; obtain ⟨cs, ⟨_, h1⟩, _⟩ := hro; rcases h1 with ⟨h1, _⟩ | ⟨_, _, _, h1, _⟩ <;> rw [e1] at h1 <;> cases h1
    | gone => rw [hat] at hro; rw [show hd i = nilV from hro] at e1; cases e1
theorem outRows_sub {ob : List Ob} {rs : List PM} {xs : List A} {t : T} {x : A} : ∀ i ∈ outRowsOf ob x, i ∈ outRows ob (.val t :: rs) (x :: xs) := fun i hi => by
  cases x with
  | row j => simp only [outRowsOf, List.mem_singleton] at hi; subst hi; simp [outRows]
  | cut j n f => simp only [outRowsOf, List.mem_singleton] at hi; subst hi; simp [outRows]
  | box j k =>
    simp only [outRowsOf, List.mem_cons] at hi
    simp only [outRows, List.mem_cons, List.mem_append]
    exact hi.imp id .inl
  | _ => simp [outRowsOf] at hi
theorem finRes_nbx {ob : List Ob} {e : TypeId} {fs : List Fd} {rs : List PM} {x : A} {xs : List A} {d : Ds ((PM.nbx e fs :: rs).map PM.ty)} (h : finRes ob (.nbx e fs :: rs) (x :: xs) = some d) : (∃ ys, x = .nlp ∧ finRes ob rs xs = some ys ∧ d = ((none : Option (fsT fs).den), ys)) ∨ ∃ i l y ys, x = .box i 0 ∧ atn .gone ob i = .cells e l ∧ readF true ob fs l = some y ∧ finRes ob rs xs = some ys ∧ d = (some y, ys) := by
  cases x with
  | nlp =>
    simp only [finRes] at h
    split at h
    · rename_i ys hys
      injection h with h
      exact .inl ⟨ys, rfl, hys, h.symm⟩
    · cases h
  | box i k =>
    cases k with
    | succ k => simp [finRes] at h
    | zero =>
      simp only [finRes] at h
      split at h
      · rename_i e' l hat
        split at h
        · rename_i he
          subst he
          split at h
          · rename_i y ys hy hys
            injection h with h
            exact .inr ⟨_, _, _, _, rfl, hat, hy, hys, h.symm⟩
          · cases h
        · cases h
      · cases h
  | _ => simp [finRes] at h
theorem atn_app_l {α : Type} {d : α} {l r : List α} {q : Nat} (h : q < l.length) : atn d (l ++ r) q = atn d l q := by rw [atn_append, if_pos h]
theorem atn_app_r {α : Type} {d : α} {l r : List α} {m : Nat} (hm : l.length = m) (q : Nat) : atn d (l ++ r) (m + q) = atn d r q := by rw [atn_append, if_neg (by omega)]; congr 1; omega
theorem atn_rep_none (m i : Nat) : atn none (List.replicate m (none : Option Nat)) i = none := by
  induction m generalizing i with
  | zero => cases i <;> rfl
  | succ m ih => cases i with
    | zero => rfl
    | succ i => exact ih i
theorem finRes_ok {U' : Nat → Prop} {hd' : Nat → Value} (H : Rel ρ w0 U0 own fx hd0 st a w hd) (hU : ∀ b, b < w.heap.size → U' b → Us U0 st.ob.length hd b) : ∀ (rs : List PM) (xs : List A) (vs : List Value) (n : Nat) {d : Ds (rs.map PM.ty)}, finRes st.ob rs xs = some d → All2 (RA ρ (Us U0 st.ob.length hd) w hd) xs vs → (∀ q, q < (resIx st.ob rs xs).length → hd' (n + q) = hdOf hd (atn none (resIx st.ob rs xs) q)) →
    (∀ i ∈ outRows st.ob rs xs, ∀ b, blk (hd i) = some b → ¬ Orp U' ρ.V b) → (∀ i ∈ ownRes st.ob rs xs, own ≤ i) → RetsOk ρ U' w hd' w0.heap.size rs d vs n ∧ (resIx st.ob rs xs).length = nOwn rs
  | [], [], [], n, d, h, _, _, _, _ => ⟨trivial, rfl⟩
  | [], [], _ :: _, _, _, _, h, _, _, _ => h.elim
  | [], _ :: _, _, _, _, h, _, _, _, _ => by simp [finRes] at h
  | .val t :: rs, [], _, _, _, h, _, _, _, _ => by simp [finRes] at h
  | .own e t :: rs, [], _, _, _, h, _, _, _, _ => by simp [finRes] at h
  | .bx e fs :: rs, xs, _, _, _, h, _, _, _, _ => by cases xs <;> simp [finRes] at h
  | .nbx e fs :: rs, [], _, _, _, h, _, _, _, _ => by simp [finRes] at h
  | .cutp e t :: rs, [], _, _, _, h, _, _, _, _ => by simp [finRes] at h
  | .cutp e t :: rs, x :: xs, v :: vs, n, d, h, ha, hh, hv, ho => by
    have hx : ∃ i m, ∃ l : List t.den, ∃ ys, x = .cut i m true ∧ atn .gone st.ob i = .row e t l ∧ finRes st.ob rs xs = some ys ∧ d = ((l, (m : Int)), ys) := by
      cases x with
      | cut i m f =>
        cases f with
        | false => simp [finRes] at h
        | true =>
          simp only [finRes] at h
          split at h
          · rename_i e' u l hat
            split at h
            · rename_i hu
              obtain ⟨rfl, rfl⟩ := hu
              split at h
              · rename_i ys hys
                injection h with h
                exact ⟨_, _, _, _, rfl, hat, hys, h.symm⟩
              · cases h
            · cases h
          · cases h
      | _ => simp [finRes] at h
    obtain ⟨i, m, l, ys, rfl, hat, hys, rfl⟩ := hx
    have h0 := hh 0 (by simp [resIx])
    simp only [resIx, atn, Nat.add_zero] at h0
    have h0' : hd' n = hd i := h0
    obtain ⟨h1, h2⟩ := finRes_ok (hd' := hd') H hU rs xs vs (n + 1) hys ha.2 (fun q hq => by
      have := hh (q + 1) (by simpa [resIx] using hq)
      rw [show n + 1 + q = n + (q + 1) by omega]
      simpa [resIx, atn] using this) (fun j hj => hv j (by simpa [outRows] using hj)) (fun j hj => ho j (by simp [ownRes, hj]))
    have hro := H.ob i (row_lt hat)
    rw [hat, if_neg (by have := ho i (by simp [ownRes]); omega)] at hro
    have ht : Tr (Us U0 st.ob.length hd) w U' w := Tr.of (V := fun _ => False) (Ag.refl _ _) (fun _ _ h => h.elim) hU
    refine ⟨⟨cut_ra (i := i) ha.1 h0', ?_, h1⟩, by simp [resIx, nOwn, h2]⟩
    rw [h0']
    exact ro_row hro (fun b hb => ⟨rfl, (hro.blk_ge hb).1⟩) (Tk.of ht)
  | p :: rs, x :: xs, [], _, _, _, h, _, _, _ => h.elim
  | .val t :: rs, x :: xs, v :: vs, n, d, h, ha, hh, hv, ho => by
    simp only [finRes] at h
    split at h
    · rename_i y ys hy hys
      cases h
      have e1 : resIx st.ob (.val t :: rs) (x :: xs) = resIx st.ob rs xs := by cases x <;> rfl
      have e2 : ownRes st.ob (.val t :: rs) (x :: xs) = ownRes st.ob rs xs := by cases x <;> rfl
      rw [e1] at hh ⊢
      rw [e2] at ho
      obtain ⟨h1, h2⟩ := finRes_ok (hd' := hd') H hU rs xs vs n hys ha.2 hh (fun i hi => hv i (by cases x <;> simp [outRows, hi])) ho
      exact ⟨⟨outV_ird H hU hy ha.1 (fun i hi => hv i (outRows_sub i hi)), h1⟩, h2⟩
    · cases h
  | .own e t :: rs, x :: xs, v :: vs, n, d, h, ha, hh, hv, ho => by
    cases x with
    | nls =>
      simp only [finRes] at h
      split at h
      · rename_i ys hys
        cases h
        have h0 := hh 0 (by simp [resIx])
        simp only [resIx, atn, Nat.add_zero] at h0
        obtain ⟨h1, h2⟩ := finRes_ok (hd' := hd') H hU rs xs vs (n + 1) hys ha.2 (fun q hq => by
          have := hh (q + 1) (by simpa [resIx] using hq)
          rw [show n + 1 + q = n + (q + 1) by omega]
          simpa [resIx, atn] using this) (fun i hi => hv i (by simpa [outRows] using hi)) (fun i hi => ho i (by simpa [ownRes] using hi))
        have e1 : v = nilV := ha.1
        exact ⟨⟨by rw [h0]; exact e1, by rw [e1]; exact ⟨[], World.ownsRow_nil _ _ _ _, rfl⟩, h1⟩, by simp [resIx, nOwn, h2]⟩
      · cases h
    | row i =>
      simp only [finRes] at h
      split at h
      · rename_i e' u l hat
        split at h
        · rename_i hu
          obtain ⟨rfl, rfl⟩ := hu
          split at h
          · rename_i ys hys
            cases h
            have h0 := hh 0 (by simp [resIx])
            simp only [resIx, atn, Nat.add_zero] at h0
            obtain ⟨h1, h2⟩ := finRes_ok (hd' := hd') H hU rs xs vs (n + 1) hys ha.2 (fun q hq => by
              have := hh (q + 1) (by simpa [resIx] using hq)
              rw [show n + 1 + q = n + (q + 1) by omega]
              simpa [resIx, atn] using this) (fun j hj => hv j (by simpa [outRows] using hj)) (fun j hj => ho j (by simp [ownRes, hj]))
            have hro := H.ob i (row_lt hat)
            rw [hat, if_neg (by have := ho i (by simp [ownRes]); omega)] at hro
            have ht : Tr (Us U0 st.ob.length hd) w U' w := Tr.of (V := fun _ => False) (Ag.refl _ _) (fun _ _ h => h.elim) hU
            have e1 : v = hd i := ha.1
            refine ⟨⟨by rw [h0]; exact e1, ?_, h1⟩, by simp [resIx, nOwn, h2]⟩
            rw [e1]
            exact ro_row hro (fun b hb => ⟨rfl, (hro.blk_ge hb).1⟩) (Tk.of ht)
          · cases h
        · cases h
      · cases h
    | _ => simp [finRes] at h
  | .nbx e fs :: rs, x :: xs, v :: vs, n, d, h, ha, hh, hv, ho => by
    have ht : Tr (Us U0 st.ob.length hd) w U' w := Tr.of (V := fun _ => False) (Ag.refl _ _) (fun _ _ h => h.elim) hU
    rcases finRes_nbx h with ⟨ys, rfl, hys, rfl⟩ | ⟨i, l, y, ys, rfl, hat, hrd, hys, rfl⟩
    · have e1 : resIx st.ob (.nbx e fs :: rs) (.nlp :: xs) = List.replicate (1 + fsN fs) none ++ resIx st.ob rs xs := rfl
      rw [e1] at hh ⊢
      have hl : (List.replicate (1 + fsN fs) (none : Option Nat)).length = 1 + fsN fs := by simp
      obtain ⟨h1, h2⟩ := finRes_ok (hd' := hd') H hU rs xs vs (n + (1 + fsN fs)) hys ha.2 (fun q hq => by
        have := hh (1 + fsN fs + q) (by rw [List.length_append, hl]; omega)
        rw [Nat.add_assoc, this, atn_app_r hl]) (fun i hi => hv i (by simpa [outRows] using hi)) (fun i hi => ho i (by simpa [ownRes] using hi))
      refine ⟨⟨⟨ha.1, fun q hq => ?_⟩, h1⟩, by rw [List.length_append, hl, h2]; simp only [nOwn]; omega⟩
      rw [hh q (by rw [List.length_append, hl]; omega), atn_app_l (by rw [hl]; exact hq), atn_rep_none]
      rfl
    · have hcl := cells_of hat
      have e1 : resIx st.ob (.nbx e fs :: rs) (.box i 0 :: xs) = some i :: (rowIx fs l ++ resIx st.ob rs xs) := by simp only [resIx, hcl]
      have e2 : ownRes st.ob (.nbx e fs :: rs) (.box i 0 :: xs) = i :: (rIdx fs l ++ ownRes st.ob rs xs) := by simp only [ownRes, hcl]
      rw [e1] at hh ⊢
      rw [e2] at ho
      have hio := ho i (by simp)
      have hlen0 := readG_len hrd
      have h0 : hd' n = hd i := hh 0 (by simp)
      obtain ⟨g2, g3, g4⟩ := readG_ok (hd' := hd') H ht (n + 1) hrd (fun q hq => by
        have := hh (q + 1) (by rw [List.length_cons, List.length_append]; omega)
        rw [show n + 1 + q = n + (q + 1) by omega, this, show atn none (some i :: (rowIx fs l ++ resIx st.ob rs xs)) (q + 1) = atn none (rowIx fs l ++ resIx st.ob rs xs) q from rfl, atn_app_l (by omega)]) (fun j hj => ho j (by simp [hj]))
      obtain ⟨h1, h2⟩ := finRes_ok (hd' := hd') H hU rs xs vs (n + (1 + fsN fs)) hys ha.2 (fun q hq => by
        have := hh (fsN fs + q + 1) (by rw [List.length_cons, List.length_append]; omega)
        rw [show n + (1 + fsN fs) + q = n + (fsN fs + q + 1) by omega, this, show atn none (some i :: (rowIx fs l ++ resIx st.ob rs xs)) (fsN fs + q + 1) = atn none (rowIx fs l ++ resIx st.ob rs xs) (fsN fs + q) from rfl, atn_app_r hlen0]) (fun j hj => hv j (by simpa [outRows] using hj)) (fun j hj => ho j (by simp [hj]))
      have hro := H.ob i (ob_lt (by rw [hat]; simp))
      rw [hat, if_neg (by omega)] at hro
      have ev : v = hd i := by
        obtain ⟨b, q1, q2⟩ := ha.1
        rw [q1]; exact q2
      refine ⟨⟨⟨by rw [h0]; exact ev, ?_, g4⟩, h1⟩, by rw [List.length_cons, List.length_append, h2, hlen0]; simp only [nOwn]; omega⟩
      rw [h0]
      exact ro_cells hro (fun b hb => (hro.blk_ge hb).1) (by rw [fsA_len, g2]) g3
theorem results_run {fn : Func} {res : List Tmp} (h : fn.results = (res.map ResultVar.tmp).toArray) (tmps : Array Value) (P : Program) (w : World) : (results fn tmps).run P w = .ok (oneV (res.map fun t => tmps.getD t undef)) w := by
  unfold results
  rw [h, Array.mapM_eq_mapM_toList]
  have := mapM_run (P := P) (f := fun r : ResultVar => (match r with
    | .tmp t => pure (tmps.getD t undef)
    | .cell a t => do loadVar t (← asAddr (tmps.getD a undef)) : Sem Value)) (g := fun r => match r with
    | .tmp t => tmps.getD t undef
    | .cell _ _ => undef) (res.map ResultVar.tmp) w (fun x hx => by
      obtain ⟨t, _, rfl⟩ := List.mem_map.1 hx
      rfl)
  simp only [map_eq_pure_bind, Sem.run_bind]
  erw [this]
  simp only [Result.andThen_ok, Sem.run_pure, List.map_map]
  congr 1
  generalize hl : List.map ((fun r : ResultVar => match r with
    | .tmp t => tmps.getD t undef
    | .cell _ _ => undef) ∘ ResultVar.tmp) res = l
  have hl2 : List.map (fun t => tmps.getD t undef) res = l := by rw [← hl]; rfl
  rw [hl2]
  cases l with
  | nil => rfl
  | cons x l => cases l with
    | nil => rfl
    | cons y l => simp [oneV]
theorem own_lt {n : Nat} {ob : List Ob} (ho : ∀ i, ∀ j ∈ (atn .gone ob i).refs, j < n) : ∀ (rs : List PM) (xs : List A), (∀ x ∈ xs, ∀ j ∈ x.refs, j < n) → ∀ i ∈ ownRes ob rs xs, i < n := by
  intro rs
  induction rs with
  | nil => intro xs _ i hi; cases xs <;> simp [ownRes] at hi
  | cons p rs ih =>
    intro xs hx i hi
    cases xs with
    | nil => cases p <;> simp [ownRes] at hi
    | cons x xs =>
      have hx' : ∀ y ∈ xs, ∀ j ∈ y.refs, j < n := fun y hy => hx y (by simp [hy])
      cases p with
      | val t => exact ih xs hx' i (by cases x <;> simpa [ownRes] using hi)
      | bx e fs => exact ih xs hx' i (by cases x <;> simpa [ownRes] using hi)
      | cutp e t =>
        cases x with
        | cut j m f =>
          simp only [ownRes, List.mem_cons] at hi
          rcases hi with rfl | hi
          · exact hx (.cut i m f) (by simp) i (by simp [A.refs])
          · exact ih xs hx' i hi
        | _ => exact ih xs hx' i (by simpa [ownRes] using hi)
      | own e t =>
        cases x with
        | row j =>
          simp only [ownRes, List.mem_cons] at hi
          rcases hi with rfl | hi
          · exact hx (.row i) (by simp) i (by simp [A.refs])
          · exact ih xs hx' i hi
        | _ => exact ih xs hx' i (by simpa [ownRes] using hi)
      | nbx e fs =>
        cases x with
        | box j k =>
          simp only [ownRes, List.mem_cons, List.mem_append] at hi
          rcases hi with rfl | hi | hi
          · exact hx (.box i k) (by simp) i (by simp [A.refs])
          · refine ho j i ?_
            have := rIdx_refs i hi
            unfold cellsOf at this
            split at this
            · rename_i hat; rw [hat]; exact this
            · simp at this
          · exact ih xs hx' i hi
        | _ => exact ih xs hx' i (by simpa [ownRes] using hi)
theorem out_lt {n : Nat} {ob : List Ob} (ho : ∀ i, ∀ j ∈ (atn .gone ob i).refs, j < n) : ∀ (rs : List PM) (xs : List A), (∀ x ∈ xs, ∀ j ∈ x.refs, j < n) → ∀ i ∈ outRows ob rs xs, i < n := by
  intro rs
  induction rs with
  | nil => intro xs _ i hi; cases xs <;> simp [outRows] at hi
  | cons p rs ih =>
    intro xs hx i hi
    cases xs with
    | nil => cases p <;> simp [outRows] at hi
    | cons x xs =>
      have hx' : ∀ y ∈ xs, ∀ j ∈ y.refs, j < n := fun y hy => hx y (by simp [hy])
      cases p with
      | own e t => exact ih xs hx' i (by cases x <;> simpa [outRows] using hi)
      | bx e fs => exact ih xs hx' i (by cases x <;> simpa [outRows] using hi)
      | nbx e fs => exact ih xs hx' i (by cases x <;> simpa [outRows] using hi)
      | cutp e t => exact ih xs hx' i (by cases x <;> simpa [outRows] using hi)
      | val t =>
        cases x with
        | row j =>
          simp only [outRows, List.mem_cons] at hi
          rcases hi with rfl | hi
          · exact hx (.row i) (by simp) i (by simp [A.refs])
          · exact ih xs hx' i hi
        | cut j m f =>
          simp only [outRows, List.mem_cons] at hi
          rcases hi with rfl | hi
          · exact hx (.cut i m f) (by simp) i (by simp [A.refs])
          · exact ih xs hx' i hi
        | box j k =>
          simp only [outRows, List.mem_cons, List.mem_append] at hi
          rcases hi with rfl | hi | hi
          · exact hx (.box i k) (by simp) i (by simp [A.refs])
          · refine ho j i ?_
            obtain ⟨y, hy, hyi⟩ := List.mem_flatMap.1 hi
            unfold cellsOf at hy
            split at hy
            · rename_i hat
              rw [hat]
              refine List.mem_flatMap.2 ⟨y, hy, ?_⟩
              cases y <;> simp [A.rowOf] at hyi <;> subst hyi <;> simp [A.refs]
            · simp at hy
          · exact ih xs hx' i hi
        | _ => exact ih xs hx' i (by simpa [outRows] using hi)
theorem fin_ok {ps : List PM} (hV : ∀ b, ρ.V b → b < w0.heap.size) (H : Rel ρ w0 U0 (nOwn ps) (fxP ps) hd0 st a w hd) {res : List Tmp} {rs : List PM} (hnb : ∀ p ∈ ps, ∀ e fs, p ≠ .nbx e fs) {d : Ds (muts ps ++ rs.map PM.ty)} (h : fin (nOwn ps) res ps rs st = some d) :
    ∃ hd', (∀ i, i < nOwn ps → fxP ps i = true → hd' i = hd0 i) ∧ (∀ i, i < nOwn ps → ∀ b, blk (hd' i) = some b → blk (hd0 i) = some b ∨ w0.heap.size ≤ b) ∧ Apart (nOwn ps + nOwn rs) hd' ∧ MutsOk ρ (Us U0 (nOwn ps + nOwn rs) hd') w hd' ps (dl d) 0 ∧ RetsOk ρ (Us U0 (nOwn ps + nOwn rs) hd') w hd' w0.heap.size rs (dr d) (res.map fun t => a.tmps.getD t undef) (nOwn ps) := by
  unfold fin at h
  simp only at h
  split at h
  · rename_i hc
    simp only [Bool.and_eq_true, List.all_eq_true, Bool.not_eq_true', List.contains_eq_mem, decide_eq_false_iff_not] at hc
    obtain ⟨⟨c1, c2⟩, c3⟩ := hc
    split at h
    · rename_i d1 d2 h1 h2
      cases h
      rw [dl_cat, dr_cat]
      generalize hxs : res.map (atn .un st.tm) = xs at h2 c1 c2 c3
      have hall : All2 (RA ρ (Us U0 st.ob.length hd) w hd) xs (res.map fun t => a.tmps.getD t undef) := by
        subst hxs
        clear h2 c1 c2 c3 h1
        induction res with
        | nil => trivial
        | cons t res ih => exact ⟨by simpa [ev, Act.eval] using H.ev_ (.tmp t), ih⟩
      have hxr : ∀ x ∈ xs, ∀ j ∈ x.refs, j < st.ob.length := fun x hx j hj => by
        rw [← hxs] at hx
        obtain ⟨t, _, rfl⟩ := List.mem_map.1 hx
        exact H.wt t j hj
      have hlt : ∀ i ∈ ownRes st.ob rs xs, i < st.ob.length := own_lt H.wo rs xs hxr
      let hd' : Nat → Value := fun i => if i < nOwn ps then hd i else hdOf hd (atn none (resIx st.ob rs xs) (i - nOwn ps))
      have hd1 : ∀ i, i < nOwn ps → hd' i = hd i := fun i hi => by simp only [hd']; rw [if_pos hi]
      have hd2 : ∀ q, hd' (nOwn ps + q) = hdOf hd (atn none (resIx st.ob rs xs) q) := fun q => by simp only [hd']; rw [if_neg (by omega)]; congr 2; omega
      have hownlt : ∀ i ∈ ownRes st.ob rs xs, nOwn ps ≤ i := fun i hi => by have := (c2 i hi).1; simpa using this
      have hsome : ∀ q b, blk (hdOf hd (atn none (resIx st.ob rs xs) q)) = some b → ∃ i, atn none (resIx st.ob rs xs) q = some i ∧ i ∈ ownRes st.ob rs xs ∧ blk (hd i) = some b := fun q b hb => by
        cases hq : atn none (resIx st.ob rs xs) q with
        | none => rw [hq] at hb; simp [hdOf, blk_nilV] at hb
        | some i =>
          rw [hq] at hb
          exact ⟨i, rfl, by rw [← resIx_some]; exact ix_mem hq, hb⟩
      have hU : ∀ b, b < w.heap.size → Us U0 (nOwn ps + nOwn rs) hd' b → Us U0 st.ob.length hd b := by
        rintro b _ (hu | ⟨i, hi, hib⟩)
        · exact .inl hu
        · rcases Nat.lt_or_ge i (nOwn ps) with h3 | h3
          · rw [hd1 i h3] at hib
            exact .inr ⟨i, Nat.lt_of_lt_of_le h3 H.ow, hib⟩
          · have e1 := hd2 (i - nOwn ps)
            rw [show nOwn ps + (i - nOwn ps) = i by omega] at e1
            rw [e1] at hib
            obtain ⟨j, _, h5, h6⟩ := hsome _ b hib
            exact .inr ⟨j, hlt j h5, h6⟩
      have hvr : ∀ i ∈ outRows st.ob rs xs, ∀ b, blk (hd i) = some b → ¬ Orp (Us U0 (nOwn ps + nOwn rs) hd') ρ.V b := by
        intro i hi b hb hu
        have hil : i < st.ob.length := out_lt H.wo rs xs hxr i hi
        have hio : nOwn ps ≤ i := by have := c3 i hi; simpa using this
        rcases hu with hu | hv
        case inr =>
          have := hV b hv
          have := H.ge hil hio hb
          omega
        rcases hu with hu | ⟨q, hq, hqb⟩
        · exact H.u0n hil hb hu
        · rcases Nat.lt_or_ge q (nOwn ps) with h3 | h3
          · rw [hd1 q h3] at hqb
            exact H.ne i q hil (Nat.lt_of_lt_of_le h3 H.ow) (by omega) b hb hqb
          · have e1 := hd2 (q - nOwn ps)
            rw [show nOwn ps + (q - nOwn ps) = q by omega] at e1
            rw [e1] at hqb
            obtain ⟨j, _, h5, h6⟩ := hsome _ b hqb
            exact H.ne i j hil (hlt j h5) (fun e => (c2 j h5).2 (e ▸ hi)) b hb h6
      obtain ⟨r1, r2⟩ := finRes_ok (hd' := hd') H hU rs xs _ (nOwn ps) h2 hall (fun q _ => hd2 q) hvr hownlt
      refine ⟨hd', fun i hi hf => by rw [hd1 i hi]; exact H.keep i hi hf, fun i hi b hb => H.kp i hi b (by rw [← hd1 i hi]; exact hb), fun i j hi hj hij b hbi hbj => ?_, finMuts_ok H hU ps 0 h1 hnb (by rw [Nat.zero_add]; exact H.ow) (fun q hq => by rw [Nat.zero_add, hd1 q hq]), r1⟩
      have pos : ∀ i, blk (hd' i) = some b → ∃ m, m < st.ob.length ∧ blk (hd m) = some b ∧ ((i < nOwn ps ∧ m = i) ∨ (nOwn ps ≤ i ∧ nOwn ps ≤ m ∧ atn none (resIx st.ob rs xs) (i - nOwn ps) = some m)) := fun i hb => by
        rcases Nat.lt_or_ge i (nOwn ps) with h3 | h3
        · exact ⟨i, Nat.lt_of_lt_of_le h3 H.ow, by rw [← hd1 i h3]; exact hb, .inl ⟨h3, rfl⟩⟩
        · have e1 := hd2 (i - nOwn ps)
          rw [show nOwn ps + (i - nOwn ps) = i by omega] at e1
          rw [e1] at hb
          obtain ⟨m, h4, h5, h6⟩ := hsome _ b hb
          exact ⟨m, hlt m h5, h6, .inr ⟨h3, hownlt m h5, h4⟩⟩
      obtain ⟨m, m1, m2, m3⟩ := pos i hbi
      obtain ⟨k, k1, k2, k3⟩ := pos j hbj
      refine H.ne m k m1 k1 (fun e => hij ?_) b m2 k2
      subst e
      rcases m3 with ⟨a1, a2⟩ | ⟨a1, a2, a3⟩ <;> rcases k3 with ⟨b1, b2⟩ | ⟨b1, b2, b3⟩
      · omega
      · omega
      · omega
      · have := ix_inj (by rw [resIx_some]; exact c1) _ _ _ a3 b3
        omega
    · cases h
  · cases h
theorem args_nb {U : Nat → Prop} : ∀ (ps : List PM) (d : Ds (ps.map PM.ty)) (vs : List Value) (n : Nat), ArgsOk ρ U w hd0 ps d vs n → ∀ p ∈ ps, ∀ e fs, p ≠ .nbx e fs
  | [], _, _, _, _, p, hp, _, _ => by cases hp
  | q :: ps, d, [], n, h, _, _, _, _ => by cases q <;> exact h.elim
  | .nbx e fs :: ps, d, v :: vs, n, h, _, _, _, _ => h.elim
  | .val t :: ps, d, v :: vs, n, h, p, hp, e, fs => by
    rcases List.mem_cons.1 hp with rfl | hp
    · simp
    · exact args_nb ps d.2 vs n h.2 p hp e fs
  | .own e' t :: ps, d, v :: vs, n, h, p, hp, e, fs => by
    rcases List.mem_cons.1 hp with rfl | hp
    · simp
    · exact args_nb ps d.2 vs _ h.2.2 p hp e fs
  | .cutp e' t :: ps, d, v :: vs, n, h, p, hp, e, fs => by
    rcases List.mem_cons.1 hp with rfl | hp
    · simp
    · exact args_nb ps d.2 vs _ h.2.2 p hp e fs
  | .bx e' fs' :: ps, d, v :: vs, n, h, p, hp, e, fs => by
    rcases List.mem_cons.1 hp with rfl | hp
    · simp
    · exact args_nb ps d.2 vs _ h.2.2 p hp e fs
theorem boxOk_tr {U U' : Nat → Prop} {hd' : Nat → Value} {B : Nat} {e : TypeId} {fs : List Fd} {x : (fsT fs).den} {n : Nat} (k : Tr U w U' w) (h : BoxOk ρ U w hd' B e fs x n) : BoxOk ρ U' w hd' B e fs x n :=
  ⟨RO.tr k (fun _ _ => rfl) (fun _ _ => rfl) h.1, fun q hq => RO.tr k (fun _ _ => rfl) (fun _ _ => rfl) (h.2 q hq)⟩
theorem muts_tr {U U' : Nat → Prop} {hd' : Nat → Value} (k : Tr U w U' w) : ∀ (ps : List PM) (d : Ds (muts ps)) (n : Nat), MutsOk ρ U w hd' ps d n → MutsOk ρ U' w hd' ps d n
  | [], _, _, _ => trivial
  | .val _ :: ps, d, n, h => muts_tr k ps d n h
  | .nbx _ fs :: ps, d, n, h => muts_tr k ps d (n + (1 + fsN fs)) h
  | .own e t :: ps, d, n, h => ⟨RO.tr k (fun _ _ => rfl) (fun _ _ => rfl) h.1, muts_tr k ps d.2 _ h.2⟩
  | .cutp e t :: ps, d, n, h => ⟨RO.tr k (fun _ _ => rfl) (fun _ _ => rfl) h.1, muts_tr k ps d.2 _ h.2⟩
  | .bx e fs :: ps, d, n, h => ⟨boxOk_tr k h.1, muts_tr k ps d.2 _ h.2⟩
theorem rets_tr {U U' : Nat → Prop} {hd' : Nat → Value} {B : Nat} (k : Tr U w U' w) : ∀ (rs : List PM) (d : Ds (rs.map PM.ty)) (vs : List Value) (n : Nat), RetsOk ρ U w hd' B rs d vs n → RetsOk ρ U' w hd' B rs d vs n
  | [], _, [], _, _ => trivial
  | [], _, _ :: _, _, h => h.elim
  | q :: rs, d, [], n, h => by cases q <;> exact h.elim
  | .bx _ _ :: rs, d, v :: vs, n, h => h.elim
  | .val t :: rs, d, v :: vs, n, h => ⟨IRd.tr h.1 k, rets_tr k rs d.2 vs n h.2⟩
  | .own e t :: rs, d, v :: vs, n, h => ⟨h.1, RO.tr k (fun _ _ => rfl) (fun _ _ => rfl) h.2.1, rets_tr k rs d.2 vs _ h.2.2⟩
  | .cutp e t :: rs, d, v :: vs, n, h => ⟨cut_ra h.1 rfl, RO.tr k (fun _ _ => rfl) (fun _ _ => rfl) h.2.1, rets_tr k rs d.2 vs _ h.2.2⟩
  | .nbx e fs :: rs, d, v :: vs, n, h => by
    obtain ⟨d1, d2⟩ := d
    refine ⟨?_, rets_tr k rs d2 vs _ h.2⟩
    cases d1 with
    | none => exact h.1
    | some x => exact ⟨h.1.1, boxOk_tr k h.1.2⟩
/-- A function of the program does what its plain function says. -/
theorem sound_of (hE : EnvOk P ρ E) (hm : P.follows .mixedOrders = true) {f : FuncId} {s : Sig} {fn : Func} {c : Code} {res : List Tmp} (hf : P.funcs[f]? = some fn) (hb : fn.body = some c) (hres : fn.results = (res.map ResultVar.tmp).toArray) (hc : chkCode E c = true) (hl : LoopsOk E c) (ho : E.own = nOwn s.ps) (hnt : s.ps.length ≤ fn.ntmps)
    (h : ∀ d, s.pre d = true → runF E fn.ntmps c res s.ps s.rs d = some (s.fn d)) (hF : ∀ i, E.fx i = fxP s.ps i := by intro i; rfl) (hfresh : s.fresh = false := by rfl) : Sound P ρ f s := by
  intro d hpre w U0 U1 V hd0 vs hu hu1 hfr hap hK ha
  have hE : EnvOk P (ρ.on V) E := ⟨hE.tab, hE.sg⟩
  have hn := h d hpre
  have H := start_rel hu hap ha fn.ntmps hnt
  refine calls_of_wp hf hb (exec_sound hE ho hF hK hm c hc hl (Q := bodyPost P fn _) (fun c a d v w hp => ?_) H hn (fun e st' a' w' hd' hk H' => ?_))
  · obtain ⟨h1, h2⟩ := hp
    exact ⟨by cases d <;> exact h1, h2⟩
  · have main : fin E.own res s.ps s.rs st' = some (s.fn d) → bodyPost P fn (fun e w' => ∃ rvs hd', e = .returned (oneV rvs) ∧ Ag (Us (fun _ => False) (nOwn s.ps) hd0) w w' ∧ (∀ i, i < nOwn s.ps → fxP s.ps i = true → hd' i = hd0 i) ∧ (∀ i, i < nOwn s.ps → ∀ b, blk (hd' i) = some b → blk (hd0 i) = some b ∨ w.heap.size ≤ b) ∧ Apart (nOwn s.ps + nOwn s.rs) hd' ∧
        MutsOk (ρ.on V) (Us U1 (nOwn s.ps + nOwn s.rs) hd') w' hd' s.ps (dl (s.fn d)) 0 ∧ RetsOk (ρ.on V) (Us U1 (nOwn s.ps + nOwn s.rs) hd') w' hd' w.heap.size s.rs (dr (s.fn d)) rvs (nOwn s.ps)) .ret a' w' := by
      intro hfin
      rw [ho] at hfin
      obtain ⟨hd2, r1, r2, r3, r4, r5⟩ := fin_ok hK.vlt H' (args_nb s.ps d vs 0 ha) hfin
      have k : Tr (Us U0 (nOwn s.ps + nOwn s.rs) hd2) w' (Us U1 (nOwn s.ps + nOwn s.rs) hd2) w' := Tr.of (V := fun _ => False) (Ag.refl _ _) (fun _ _ h => h.elim) (fun b _ hb => hb.imp (hfr hfresh b) id)
      exact ⟨H'.df, _, results_run hres a'.tmps P w', _, hd2, rfl, H'.ag, r1, r2, r3, muts_tr k _ _ _ r4, rets_tr k _ _ _ _ r5⟩
    cases e with
    | ex i => cases hk
    | rt => exact main hk
    | nm =>
      simp only at hk
      split at hk
      · exact main hk
      · cases hk
end
end Go.Proofs.YthbojpaghbbnnaaDoor.Z
namespace Go.Proofs.YthbojpaghbbnnaaDoor.Z
open Go Go.RowKit
set_option linter.unusedVariables false
def structB (P : Program) (id : TypeId) : Option (List (Nat × TypeId)) :=
  match P.underlying id with
  | some (.struct fs) => some (fs.toList.map fun f => (f.offset, f.type))
  | _ => none
/-- What is asked of one row of the table. -/
structure EntryOk (P : Program) (tab : Tab) (id : TypeId) (i : TI) : Prop where
  info : (P.info? id).map (fun i => (i.zero, i.size, i.bytes)) = some (some (pack i.t (zeroC i.t)), i.t.size, i.bytes)
  pos : 0 < i.bytes
  und : UndOk P tab id i i.u
theorem tab_of {P : Program} {tab : Tab} : ∀ {l : Tab}, (∀ p ∈ l, EntryOk P tab p.1 p.2) → ∀ id i, l.find id = some i → EntryOk P tab id i
  | [], _, id, i, h => by simp [Tab.find] at h
  | (k, j) :: l, hl, id, i, h => by
    unfold Tab.find at h
    split at h
    · rename_i e
      injection h with h
      subst h
      subst e
      exact hl (k, j) (by simp)
    · exact tab_of (fun p hp => hl p (by simp [hp])) id i h
theorem tabOk_of {P : Program} {tab : Tab} (h : ∀ p ∈ tab, EntryOk P tab p.1 p.2) : TabOk P tab where
  info := fun id i hi => by
    have e := tab_of h id i hi
    obtain ⟨inf, h1, h2⟩ := Option.map_eq_some_iff.1 e.info
    simp only [Prod.mk.injEq] at h2
    exact ⟨inf, h1, h2.2.1, h2.2.2, e.pos, h2.1⟩
  und := fun id i hi => (tab_of h id i hi).und
theorem st_ok {P : Program} {tab : Tab} {id : TypeId} {i : TI} {fs : List (Nat × TypeId)} (hp : i.t.isPair = true) (h : structB P id = some fs) (hf : ∀ p ∈ fs, ∃ j, tab.find p.2 = some j) : UndOk P tab id i (.st fs) := by
  refine ⟨hp, ?_⟩
  unfold structB at h
  split at h
  · rename_i fields hu
    injection h with h
    refine ⟨fields, hu, by rw [← h]; simp, fun k hk => ?_⟩
    have hk' : k < fields.size := by rw [← h] at hk; simpa using hk
    obtain ⟨j, hj⟩ := hf (atn (0, 0) fs k) (atn_mem _ _ _ hk)
    have e : atn (0, 0) fs k = (fields[k].offset, fields[k].type) := by
      rw [atn_getElem _ _ _ hk]
      simp only [← h]
      simp
    rw [e] at hj
    exact ⟨fields[k], j, Array.getElem?_eq_getElem hk', by rw [e], by rw [e], hj⟩
  · cases h
abbrev I64 : T := .int .i64
abbrev Pr : T := .pair I64 I64
end Go.Proofs.YthbojpaghbbnnaaDoor.Z
namespace Go.Proofs.YthbojpaghbbnnaaDoor.Z
open Go
/-- The library's table lies in its variable. -/
def Kw (w : World) : Prop := Go.Proofs.TabAt 0 Lib.deBruijn64tab w
end Go.Proofs.YthbojpaghbbnnaaDoor.Z
namespace Go.Proofs.YthbojpaghbbnnaaDoor
open Go.RowKit Go.WideMaps Go.Maps Go.MapKept
open Go.ChangeMaps (setBlock)
set_option linter.unusedVariables false
set_option linter.unusedSimpArgs false
def kv (u v : Int) : Value := .agg #[.int .i64 u, .int .i64 v]
def Wf (n : Int) : Prop := -9223372036854775808 ≤ n ∧ n ≤ 9223372036854775807
theorem wf_lit {n : Int} (h : Wf n) : (Lit.int .i64 n).wf = true := by
  unfold Wf at h
  simp [Lit.wf, IntKind.min, IntKind.max, IntKind.signed, IntKind.bits]
  omega
theorem typesSize : Tryd.prog.types.size = 154 := by kernel_rfl
theorem keyRow : 110 < Tryd.prog.types.size := by rw [typesSize]; omega
theorem keyAt : Tryd.prog.keyTypeAt 2 110 = true := by kernel_rfl
theorem Kk : Keyed Tryd.prog 110 := Keyed.of_law (deep_law_laid Facts.laidOut (m := 2) (by decide) keyRow keyAt (by kernel_rfl))
theorem keyType_ : Tryd.prog.keyType 110 = true := by kernel_rfl
theorem cellsKey : Tryd.prog.cellsOf 110 = 2 := by kernel_rfl
theorem cellsInt : Tryd.prog.cellsOf 3 = 1 := by kernel_rfl
theorem key_some {u v : Int} (hu : Wf u) (hv : Wf v) : ∃ l, keyOf Tryd.prog 110 (kv u v) = some l := by
  have h1 := wf_lit hu
  have h2 := wf_lit hv
  obtain ⟨d, hd⟩ : ∃ d, Tryd.prog.types.size = d + 1 := ⟨154 - 1, by rw [typesSize]⟩
  have hf : (kv u v).formed Tryd.prog 110 = true := by
    unfold kv Value.formed
    rw [Tryd.underlying110, cellsKey]
    rfl
  have hk : ∃ ls, Tryd.prog.keyLits (Tryd.prog.types.size + 1) 110 (kv u v).cells.toList = some ls := by
    rw [hd]
    unfold Program.keyLits
    simp only [Tryd.underlying110, kv, Value.cells, cellsKey, cellsInt]
    unfold Program.keyLits
    simp [List.range_succ, Tryd.underlying3, h1, h2]
  obtain ⟨ls, hls⟩ := hk
  unfold keyOf
  rw [Tryd.underlying110]
  simp only [keyType_, hf, hls]
  exact ⟨_, rfl⟩
theorem kv_inj {u v u' v' : Int} (h : kv u v = kv u' v') : u = u' ∧ v = v' := by
  unfold kv at h
  injection h with h
  simp at h
  exact h
def pv (p : Int × Int) : Value × Value := (kv p.1 p.2, .bool true)
/-- Block m is the map of the edges E, in the order in which they came. -/
def EMap (w : World) (m : Nat) (E : List (Int × Int)) : Prop :=
  ∃ es clock, w.heap[m]? = some (.map es clock) ∧ Stamped es clock ∧ es.toList.map (fun x => (x.key, x.val)) = E.map pv ∧ ∀ p ∈ E, Wf p.1 ∧ Wf p.2
theorem pv_inj : Function.Injective pv := by
  intro p q h
  unfold pv at h
  have := kv_inj (congrArg Prod.fst h)
  exact Prod.ext this.1 this.2
theorem EMap.lt {w : World} {m : Nat} {E : List (Int × Int)} (h : EMap w m E) : m < w.heap.size := by
  obtain ⟨es, clock, h1, _⟩ := h
  exact (Array.getElem?_eq_some_iff.1 h1).1
theorem EMap.frame {w w' : World} {m : Nat} {E : List (Int × Int)} (h : EMap w m E) (hb : w'.heap[m]? = w.heap[m]?) : EMap w' m E := by
  obtain ⟨es, clock, h1, h2⟩ := h
  exact ⟨es, clock, hb.trans h1, h2⟩
theorem EMap.nodup {w : World} {m : Nat} {E : List (Int × Int)} (h : EMap w m E) : E.Nodup := by
  obtain ⟨es, clock, h1, h2, h3, h4⟩ := h
  have hp := ((stamped_iff es clock).1 h2).2.2
  have : (E.map pv).Nodup := by
    rw [← h3]
    unfold List.Nodup
    rw [List.pairwise_map]
    exact hp.imp (fun hne e => hne (congrArg Prod.fst e))
  rw [List.Nodup, List.pairwise_map] at this
  exact this.imp (fun hne e => hne (by rw [e]))
theorem EMap.keys {E : List (Int × Int)} {es : Array MapEntry} (h3 : es.toList.map (fun x => (x.key, x.val)) = E.map pv) : ∀ x ∈ es.toList, ∃ p ∈ E, x.key = kv p.1 p.2 ∧ x.val = .bool true := by
  intro x hx
  have : (x.key, x.val) ∈ E.map pv := by rw [← h3]; exact List.mem_map_of_mem hx
  obtain ⟨p, hp, e⟩ := List.mem_map.1 this
  exact ⟨p, hp, (congrArg Prod.fst e).symm, (congrArg Prod.snd e).symm⟩
theorem EMap.find {w : World} {E : List (Int × Int)} {es : Array MapEntry} (h3 : es.toList.map (fun x => (x.key, x.val)) = E.map pv) (h4 : ∀ p ∈ E, Wf p.1 ∧ Wf p.2) {u v : Int} (hu : Wf u) (hv : Wf v) :
    ((Instr.findKey 110 (kv u v) es.toList).run Tryd.prog w = .ok none w ∧ (u, v) ∉ E ∧ ∀ x ∈ es.toList, x.key ≠ kv u v) ∨
    ∃ j e, (Instr.findKey 110 (kv u v) es.toList).run Tryd.prog w = .ok (some (j, .bool true)) w ∧ es.toList[j]? = some e ∧ e.key = kv u v ∧ e.val = .bool true ∧ E[j]? = some (u, v) := by
  obtain ⟨l, hl⟩ := key_some hu hv
  have hk : ∀ e ∈ es.toList, ∃ l, keyOf Tryd.prog 110 e.key = some l := by
    intro e he
    obtain ⟨p, hp, e1, _⟩ := EMap.keys h3 e he
    rw [e1]
    exact key_some (h4 p hp).1 (h4 p hp).2
  rcases Kk.find w hl es.toList hk with ⟨h1, h2⟩ | ⟨j, e, h1, h2, h5⟩
  · refine .inl ⟨h1, fun hm => ?_, h2⟩
    have : pv (u, v) ∈ es.toList.map (fun x => (x.key, x.val)) := by rw [h3]; exact List.mem_map_of_mem hm
    obtain ⟨x, hx, e⟩ := List.mem_map.1 this
    exact h2 x hx (congrArg Prod.fst e)
  · have hj := congrArg (fun l => l[j]?) h3
    simp only [List.getElem?_map, h2, Option.map_some] at hj
    have hjE : ∃ q, E[j]? = some q ∧ (e.key, e.val) = pv q := by
      cases hq : E[j]? with
      | none => rw [hq] at hj; cases hj
      | some q => rw [hq] at hj; exact ⟨q, rfl, Option.some.inj hj⟩
    obtain ⟨q, hq, eq⟩ := hjE
    have ev : e.val = .bool true := congrArg Prod.snd eq
    have ek : kv u v = kv q.1 q.2 := by rw [← h5]; exact congrArg Prod.fst eq
    have := kv_inj ek
    refine .inr ⟨j, e, by rw [h1, ev], h2, h5, ev, ?_⟩
    rw [hq, this.1, this.2]
theorem modify_same {es : Array MapEntry} {j : Nat} {e : MapEntry} (h : es.toList[j]? = some e) (f : MapEntry → MapEntry) (hf : f e = e) : es.modify j f = es := by
  apply Array.ext_getElem?
  intro i
  rw [Array.getElem?_modify]
  split
  · rename_i hji
    subst hji
    rw [Array.getElem?_toList] at h
    rw [h]
    simp [hf]
  · rfl
theorem setBlock_same {w : World} {m : Nat} {o : Obj} (h : w.heap[m]? = some o) : setBlock w m o = w := by
  have : w.heap.setIfInBounds m o = w.heap := by
    apply Array.ext_getElem?
    intro i
    rw [Array.getElem?_setIfInBounds]
    split
    · rename_i e
      subst e
      obtain ⟨hlt, _⟩ := Array.getElem?_eq_some_iff.1 h
      rw [if_pos hlt]
      exact h.symm
    · rfl
  simp [setBlock, this]
def addE (E : List (Int × Int)) (p : Int × Int) : List (Int × Int) := if p ∈ E then E else E ++ [p]
theorem EMap.update {w : World} {m : Nat} {E : List (Int × Int)} (h : EMap w m E) {u v : Int} (hu : Wf u) (hv : Wf v) :
    ∃ w', (Instr.mapUpdate 99 (.map (some m)) (kv u v) (.bool true)).run Tryd.prog w = .ok () w' ∧ EMap w' m (addE E (u, v)) ∧ w.grownBy w' (some m) ∧ w'.heap.size = w.heap.size := by
  have hh := h
  obtain ⟨es, clock, hb, h2, h3, h4⟩ := h
  obtain ⟨l, hl⟩ := key_some hu hv
  rcases EMap.find (w := w) h3 h4 hu hv with ⟨h1, h5, h6⟩ | ⟨j, e, h1, h5, h6, h7, h8⟩
  · refine ⟨setBlock w m (.map (es.push ⟨kv u v, .bool true, clock⟩) (clock + 1)), ?_, ⟨_, _, ChangeMaps.heap_setBlock_same hb _, stamped_push h2 h6, ?_, ?_⟩, ⟨rfl, rfl, rfl, by simp [setBlock], fun i _ hi => ChangeMaps.heap_setBlock_other hb _ (fun e => hi (by rw [e]))⟩, by simp [setBlock]⟩
    · simp [Instr.mapUpdate, run_underlying Tryd.underlying99, MapKept.run_getObj_map hb, Kk.check w false hl, h1, MapKept.run_setObj_map _ hb, Result.andThen, setBlock]
    · rw [addE, if_neg h5, Array.toList_push, List.map_append, h3, List.map_append]
      rfl
    · intro p hp
      rw [addE, if_neg h5] at hp
      rcases List.mem_append.1 hp with hp | hp
      · exact h4 p hp
      · rw [List.mem_singleton.1 hp]; exact ⟨hu, hv⟩
  · have hm : (u, v) ∈ E := List.mem_of_getElem? h8
    refine ⟨w, ?_, by rw [addE, if_pos hm]; exact hh, World.grownBy.refl _ _, rfl⟩
    have e1 : es.modify j (fun x => { x with key := kv u v, val := Value.bool true }) = es := modify_same h5 _ (by cases e; simp_all)
    have e2 : ((es[j]?).map (·.key)).getD (kv u v) = kv u v := by
      rw [Array.getElem?_toList] at h5
      rw [h5]; simpa using h6
    have e3 := setBlock_same hb
    simp only [Instr.mapUpdate, run_underlying Tryd.underlying99, MapKept.run_getObj_map hb, Kk.check w false hl, h1, Sem.run_bind, Result.andThen, e2, Kk.stays w hl, MapKept.run_setObj_map _ hb, e1]
    unfold setBlock at e3
    rw [e3]
theorem filter_eraseIdx {α : Type} [DecidableEq α] : ∀ (l : List α) (j : Nat) (x : α), l.Nodup → l[j]? = some x → l.filter (· ≠ x) = l.eraseIdx j
  | [], j, x, _, h => by simp at h
  | y :: l, 0, x, hn, h => by
    obtain rfl : y = x := by simpa using h
    have := (List.nodup_cons.1 hn).1
    rw [List.filter_cons, if_neg (by simp), List.eraseIdx_cons_zero]
    exact List.filter_eq_self.2 (fun z hz => by simp; intro e; exact this (e ▸ hz))
  | y :: l, j + 1, x, hn, h => by
    have h' : l[j]? = some x := by simpa using h
    have hne : y ≠ x := fun e => (List.nodup_cons.1 hn).1 (e ▸ List.mem_of_getElem? h')
    rw [List.filter_cons, if_pos (by simpa using hne), List.eraseIdx_cons_succ, filter_eraseIdx l j x (List.nodup_cons.1 hn).2 h']
theorem EMap.delete {w : World} {m : Nat} {E : List (Int × Int)} (h : EMap w m E) {u v : Int} (hu : Wf u) (hv : Wf v) (ty : TypeId) :
    ∃ w', (Builtin.delete_ #[99, 110] ty #[.map (some m), kv u v]).run Tryd.prog w = .ok (.tuple #[]) w' ∧ EMap w' m (E.filter (· ≠ (u, v))) ∧ w.grownBy w' (some m) ∧ w'.heap.size = w.heap.size := by
  have hh := h
  have hnd := h.nodup
  obtain ⟨es, clock, hb, h2, h3, h4⟩ := h
  obtain ⟨l, hl⟩ := key_some hu hv
  rcases EMap.find (w := w) h3 h4 hu hv with ⟨h1, h5, h6⟩ | ⟨j, e, h1, h5, h6, h7, h8⟩
  · refine ⟨w, ?_, ?_, World.grownBy.refl _ _, rfl⟩
    · have e3 := setBlock_same hb
      unfold setBlock at e3
      simp [Builtin.delete_, run_underlying Tryd.underlying99, MapKept.run_getObj_map hb, Kk.check w _ hl, h1, MapKept.run_setObj_map _ hb, Result.andThen, e3]
    · rw [List.filter_eq_self.2 (fun p hp => by simp; intro e; exact h5 (e ▸ hp))]
      exact hh
  · have hjl : j < es.toList.length := (List.getElem?_eq_some_iff.1 h5).1
    have hsub : (es.eraseIdxIfInBounds j).toList = es.toList.eraseIdx j := by
      unfold Array.eraseIdxIfInBounds
      rw [dif_pos (by simpa using hjl)]
      simp
    have hE : E.filter (· ≠ (u, v)) = E.eraseIdx j := filter_eraseIdx E j (u, v) hnd h8
    refine ⟨setBlock w m (.map (es.eraseIdxIfInBounds j) clock), ?_, ⟨_, _, ChangeMaps.heap_setBlock_same hb _, stamped_erase h2 j, ?_, ?_⟩, ⟨rfl, rfl, rfl, by simp [setBlock], fun i _ hi => ChangeMaps.heap_setBlock_other hb _ (fun e => hi (by rw [e]))⟩, by simp [setBlock]⟩
    · simp [Builtin.delete_, run_underlying Tryd.underlying99, MapKept.run_getObj_map hb, Kk.check w _ hl, h1, MapKept.run_setObj_map _ hb, Result.andThen, setBlock]
    · rw [hE, hsub, ChangeMaps.map_eraseIdx, h3, ← ChangeMaps.map_eraseIdx]
    · intro p hp
      exact h4 p (List.mem_filter.1 hp).1
end Go.Proofs.YthbojpaghbbnnaaDoor
namespace Go.Proofs.YthbojpaghbbnnaaDoor
open Go.RowKit Go.WideMaps Go.Maps Go.MapKept
open Go.ChangeMaps (setBlock)
set_option linter.unusedVariables false
set_option linter.unusedSimpArgs false
/-- L without p. -/
def less (L : List (Int × Int)) (p : Int × Int) : List (Int × Int) := L.filter (· ≠ p)
theorem mem_less {L : List (Int × Int)} {p q : Int × Int} : q ∈ less L p ↔ q ∈ L ∧ q ≠ p := by simp [less]
theorem less_lt {L : List (Int × Int)} {p : Int × Int} (h : p ∈ L) : (less L p).length < L.length := by
  unfold less
  have := List.length_filter_lt_length_iff_exists (p := fun q => decide (q ≠ p)) (l := L)
  exact this.2 ⟨p, h, by simp⟩
/-- The iterator in block r goes through the map in block m; L is still to come. -/
def Rng (w : World) (m r : Nat) (L : List (Int × Int)) : Prop :=
  ∃ es clock seen, w.heap[m]? = some (.map es clock) ∧ Stamped es clock ∧ w.heap[r]? = some (.mapIter (some m) clock seen clock) ∧ (leftOf es seen).toList.map (fun x => (x.key, x.val)) = L.map pv
theorem Rng.frame {w w' : World} {m r : Nat} {L : List (Int × Int)} (h : Rng w m r L) (h1 : w'.heap[m]? = w.heap[m]?) (h2 : w'.heap[r]? = w.heap[r]?) : Rng w' m r L := by
  obtain ⟨es, clock, seen, a, b, c, d⟩ := h
  exact ⟨es, clock, seen, h1.trans a, b, h2.trans c, d⟩
theorem Rng.lt {w : World} {m r : Nat} {L : List (Int × Int)} (h : Rng w m r L) : m < w.heap.size ∧ r < w.heap.size := by
  obtain ⟨es, clock, seen, a, b, c, d⟩ := h
  exact ⟨(Array.getElem?_eq_some_iff.1 a).1, (Array.getElem?_eq_some_iff.1 c).1⟩
theorem sb_same {w : World} {b : Nat} {o : Obj} (h : w.heap[b]? = some o) (o' : Obj) : (setBlock w b o').heap[b]? = some o' := by
  have hlt := (Array.getElem?_eq_some_iff.1 h).1
  simp [setBlock, hlt]
theorem sb_other (w : World) (b : Nat) (o : Obj) {i : Nat} (hi : i ≠ b) : (setBlock w b o).heap[i]? = w.heap[i]? := by
  simp [setBlock, Array.getElem?_setIfInBounds, Ne.symm hi]
theorem filter_map_eq {α : Type} (f : α → Value × Value) (c : α → Bool) (p : Int × Int) : ∀ (zs : List α) (L : List (Int × Int)), zs.map f = L.map pv → (∀ x ∈ zs, c x = true ↔ f x ≠ pv p) → (zs.filter c).map f = (L.filter (· ≠ p)).map pv
  | [], [], _, _ => rfl
  | [], _ :: _, h, _ => by simp at h
  | _ :: _, [], h, _ => by simp at h
  | x :: zs, q :: L, h, hc => by
    simp only [List.map_cons, List.cons.injEq] at h
    have ih := filter_map_eq f c p zs L h.2 (fun y hy => hc y (by simp [hy]))
    have hx := hc x (by simp)
    by_cases e : q = p
    · have : c x = false := by
        rw [← Bool.not_eq_true]
        intro hh
        exact hx.1 hh (by rw [h.1, e])
      rw [List.filter_cons, List.filter_cons, if_neg (by simp [this]), if_neg (by simp [e])]
      exact ih
    · have : c x = true := hx.2 (fun hh => e (pv_inj (by rw [← h.1, hh])))
      rw [List.filter_cons, List.filter_cons, if_pos this, if_pos (by simpa using e), List.map_cons, List.map_cons, h.1, ih]
theorem Rng.begin {w : World} {m : Nat} {E : List (Int × Int)} (h : EMap w m E) : ∃ w', (Instr.range 99 (.map (some m))).run Tryd.prog w = .ok (.pointer (some ⟨w.heap.size, 0, none⟩)) w' ∧ Rng w' m w.heap.size E ∧ w.grownBy w' none ∧ w'.heap.size = w.heap.size + 1 := by
  obtain ⟨es, clock, hb, h2, h3, h4⟩ := h
  have hlt := (Array.getElem?_eq_some_iff.1 hb).1
  refine ⟨w.alloc (.mapIter (some m) clock #[] clock), ?_, ⟨es, clock, #[], ?_, h2, ?_, ?_⟩, World.grownBy_alloc w _ none, by simp⟩
  · simp only [Instr.range, Sem.run_bind, run_underlying Tryd.underlying99, Result.andThen, MapKept.run_getObj_map hb]
    rfl
  · rw [Below.heap_alloc w _ m hlt]; exact hb
  · exact (MapKept.heap_alloc w _).1
  · rw [← h3]
    unfold leftOf
    rw [Array.toList_filter, List.filter_eq_self.2 (fun x _ => by simp)]
theorem Rng.next {w : World} {m r : Nat} {L : List (Int × Int)} (h : Rng w m r L) (ty : TypeId) :
    (L = [] ∧ (Instr.next (.pointer (some ⟨r, 0, none⟩)) false ty).run Tryd.prog w = .ok (.tuple #[.bool false]) w) ∨
    ∃ p ∈ L, ∃ w', (Instr.next (.pointer (some ⟨r, 0, none⟩)) false ty).run Tryd.prog w = .ok (.tuple #[.bool true, kv p.1 p.2, .bool true]) w' ∧ Rng w' m r (less L p) ∧ w.grownBy w' (some r) ∧ w'.heap.size = w.heap.size ∧
      (Instr.entry (.pointer (some ⟨r, 0, none⟩))).run Tryd.prog w' = .ok (.tuple #[kv p.1 p.2, .bool true]) w' := by
  obtain ⟨es, clock, seen, hb, h2, hr, h3⟩ := h
  obtain ⟨s1, s2, s3⟩ := (stamped_iff es clock).1 h2
  rcases run_next_at (P := Tryd.prog) w ty r m clock clock seen es clock hr hb s1 (Nat.le_refl _) with ⟨h4, h5⟩ | ⟨e, he, w1, hw1, h5⟩
  · left
    refine ⟨?_, h5⟩
    have := congrArg List.length h3
    simp [h4] at this
    exact List.eq_nil_of_length_eq_zero this.symm
  · right
    have hm : (e.key, e.val) ∈ L.map pv := by rw [← h3]; exact List.mem_map_of_mem he
    obtain ⟨p, hp, ep⟩ := List.mem_map.1 hm
    have ek : e.key = kv p.1 p.2 := (congrArg Prod.fst ep).symm
    have ev : e.val = .bool true := (congrArg Prod.snd ep).symm
    have hes : e ∈ es.toList := by
      unfold leftOf at he
      simp at he
      simpa using he.1
    have hmr : m ≠ r := by
      intro e0
      rw [e0, hr] at hb
      cases hb
    have hr1 : w1.heap[r]? = some (.mapIter (some m) clock seen clock) := by rcases hw1 with rfl | rfl <;> exact hr
    have hb1 : w1.heap[m]? = some (.map es clock) := by rcases hw1 with rfl | rfl <;> exact hb
    have hsz : w1.heap.size = w.heap.size := by rcases hw1 with rfl | rfl <;> rfl
    refine ⟨p, hp, _, by rw [h5, ek, ev], ⟨es, clock, seen.push e.born, (sb_other w1 r _ hmr).trans hb1, h2, sb_same hr1 _, ?_⟩, ?_, by simp [setBlock, hsz], ?_⟩
    · unfold less
      have e1 : (leftOf es (seen.push e.born)).toList = (leftOf es seen).toList.filter (fun x => x.born != e.born) := by
        unfold leftOf
        rw [Array.toList_filter, Array.toList_filter, List.filter_filter]
        refine List.filter_congr (fun x _ => ?_)
        simp [Array.contains_push]
        rw [Bool.and_comm]
        rfl
      rw [e1]
      refine filter_map_eq (fun x : MapEntry => (x.key, x.val)) _ p _ _ h3 (fun x hx => ?_)
      have hxe : x ∈ es.toList := by
        unfold leftOf at hx
        simp at hx
        simpa using hx.1
      rw [ep]
      constructor
      · intro hh e0
        have hke : x.key = e.key := congrArg Prod.fst e0
        have hbe : x.born ≠ e.born := by simpa using hh
        by_cases hxx : x = e
        · exact hbe (by rw [hxx])
        · obtain ⟨i, hi, rfl⟩ := List.getElem_of_mem hxe
          obtain ⟨j, hj, rfl⟩ := List.getElem_of_mem hes
          rcases Nat.lt_trichotomy i j with h7 | h7 | h7
          · exact (List.pairwise_iff_getElem.1 s3 i j hi hj h7) hke
          · exact hxx (by subst h7; rfl)
          · exact (List.pairwise_iff_getElem.1 s3 j i hj hi h7) hke.symm
      · intro hne
        simp only [bne_iff_ne, ne_eq]
        intro e0
        apply hne
        obtain ⟨i, hi, rfl⟩ := List.getElem_of_mem hxe
        obtain ⟨j, hj, rfl⟩ := List.getElem_of_mem hes
        have : i = j := by
          have hn := List.nodup_iff_pairwise_ne.1 s2
          rcases Nat.lt_trichotomy i j with h7 | h7 | h7
          · exact absurd (by rw [List.getElem_map, List.getElem_map]; exact e0) (List.pairwise_iff_getElem.1 hn i j (by simpa using hi) (by simpa using hj) h7)
          · exact h7
          · exact absurd (by rw [List.getElem_map, List.getElem_map]; exact e0.symm) (List.pairwise_iff_getElem.1 hn j i (by simpa using hj) (by simpa using hi) h7)
        subst this
        rfl
    · have : w.grownBy w1 (some r) := by
        rcases hw1 with rfl | rfl
        · exact World.grownBy.refl _ _
        · exact ⟨rfl, rfl, rfl, Nat.le_refl _, fun _ _ _ => rfl⟩
      exact World.grownBy.trans this ⟨rfl, rfl, rfl, by simp [setBlock], fun i _ hi => sb_other w1 r _ (fun e => hi (by rw [e]))⟩
    · have := run_entry_at (P := Tryd.prog) (setBlock w1 r (.mapIter (some m) clock (seen.push e.born) clock)) r m clock seen es clock e (sb_same hr1 _) ((sb_other w1 r _ hmr).trans hb1) hes s2
      rw [ek, ev] at this
      exact this
section
variable {ops : Array Oper} {rest : List Oper} {o : Oper} {a : Act} {Q : Exit → Act → World → Prop}
theorem wpl_range {w : World} (hg : o.guard = none) (m : Operand) (hop : o.op = Op.range 99 m) (b r : Nat) (hr : w.heap.size = r) {E : List (Int × Int)} (hm : a.eval m = .map (some b)) (h : EMap w b E)
    (hK : ∀ w', Rng w' b r E → w.grownBy w' none → w'.heap.size = r + 1 → wpList Tryd.prog ops Q rest (a.put o.dst (.pointer (some ⟨r, 0, none⟩))) w') :
    wpList Tryd.prog ops Q (o :: rest) a w := by
  refine wpList_plain hg fun K' hK' => ?_
  obtain ⟨w', hrun, r1, r2, r3⟩ := Rng.begin h
  unfold Oper.wp
  simp [execOp, hop, hm, hrun, Result.andThen]
  rw [hr] at r1 r3 ⊢
  exact hK' _ _ (hK w' r1 r2 r3)
theorem wpl_next {w : World} (hg : o.guard = none) (it : Operand) (hop : o.op = Op.next it false) (b r : Nat) {L : List (Int × Int)} (hit : a.eval it = .pointer (some ⟨r, 0, none⟩)) (h : Rng w b r L)
    (hDone : L = [] → wpList Tryd.prog ops Q rest (a.put o.dst (.tuple #[.bool false])) w)
    (hMore : ∀ (p : Int × Int) (w' : World), p ∈ L → Rng w' b r (less L p) → w.grownBy w' (some r) → w'.heap.size = w.heap.size →
      (Instr.entry (.pointer (some ⟨r, 0, none⟩))).run Tryd.prog w' = .ok (.tuple #[kv p.1 p.2, .bool true]) w' → wpList Tryd.prog ops Q rest (a.put o.dst (.tuple #[.bool true, kv p.1 p.2, .bool true])) w') :
    wpList Tryd.prog ops Q (o :: rest) a w := by
  refine wpList_plain hg fun K' hK' => ?_
  unfold Oper.wp
  rcases h.next o.type with ⟨h0, hrun⟩ | ⟨p, hp, w', hrun, h1, h2, h3, h4⟩
  · simp [execOp, hop, hit, hrun, Result.andThen]
    exact hK' _ _ (hDone h0)
  · simp [execOp, hop, hit, hrun, Result.andThen]
    exact hK' _ _ (hMore p w' hp h1 h2 h3 h4)
theorem wpl_update {w : World} (hg : o.guard = none) (m x y : Operand) (hop : o.op = Op.mapUpdate 99 m x y) (b : Nat) {E : List (Int × Int)} (u v : Int) (hm : a.eval m = .map (some b)) (hx : a.eval x = kv u v) (hy : a.eval y = .bool true) (h : EMap w b E) (hu : Wf u) (hv : Wf v)
    (hK : ∀ w', EMap w' b (addE E (u, v)) → w.grownBy w' (some b) → w'.heap.size = w.heap.size → wpList Tryd.prog ops Q rest (a.put o.dst undef) w') :
    wpList Tryd.prog ops Q (o :: rest) a w := by
  refine wpList_plain hg fun K' hK' => ?_
  obtain ⟨w', hrun, r1, r2, r3⟩ := h.update hu hv
  unfold Oper.wp
  simp [execOp, hop, hm, hx, hy, hrun, Result.andThen]
  exact hK' _ _ (hK w' r1 r2 r3)
theorem wpl_delete {w : World} (hg : o.guard = none) (m x : Operand) (hop : o.op = Op.call { callee := Callee.builtin Builtin.delete, args := #[m, x], argTypes := #[99, 110] }) (b : Nat) {E : List (Int × Int)} (u v : Int) (hm : a.eval m = .map (some b)) (hx : a.eval x = kv u v) (h : EMap w b E) (hu : Wf u) (hv : Wf v)
    (hK : ∀ w', EMap w' b (E.filter (· ≠ (u, v))) → w.grownBy w' (some b) → w'.heap.size = w.heap.size → wpList Tryd.prog ops Q rest (a.put o.dst (.tuple #[])) w') :
    wpList Tryd.prog ops Q (o :: rest) a w := by
  refine wpList_plain hg fun K' hK' => ?_
  obtain ⟨w', hrun, r1, r2, r3⟩ := h.delete hu hv o.type
  unfold Oper.wp
  simp [execOp, hop, resolve, invoke, builtin, hm, hx, hrun, Result.andThen]
  exact hK' _ _ (hK w' r1 r2 r3)
end
theorem EMap.made (w : World) : EMap (w.alloc (.map #[] 0)) w.heap.size [] := ⟨#[], 0, (MapKept.heap_alloc w _).1, stamped_empty 0, rfl, by simp⟩
end Go.Proofs.YthbojpaghbbnnaaDoor
namespace Go.Proofs.YthbojpaghbbnnaaDoor
open Go.RowKit Go.WideMaps Go.Maps
set_option linter.unusedVariables false
set_option linter.unusedSimpArgs false
theorem infoInt : (Tryd.prog.info? 3).map (fun i => (i.zero, i.size, i.bytes)) = some (some (.int .i64 0), 1, 8) := by kernel_rfl
theorem infoBool : (Tryd.prog.info? 4).map (fun i => (i.zero, i.size, i.bytes)) = some (some (.bool false), 1, 1) := by kernel_rfl
theorem infoInts : (Tryd.prog.info? 22).map (fun i => (i.zero, i.size, i.bytes)) = some (some (.slice none 0 0), 1, 24) := by kernel_rfl
/-- Rows of ints: a slice of slices, all between lo and hi. -/
def Rows2 (w : World) (lo hi : Nat) (v : Value) (n : Nat) (T : Nat → List Int) : Prop := ∃ vs, Sl w lo hi 1 v n vs ∧ ∀ i, i < n → ∃ x, vs[i]? = some x ∧ Ints w lo hi x (T i)
theorem Rows2.frame {w w' : World} {lo hi n : Nat} {v : Value} {T : Nat → List Int} (h : Rows2 w lo hi v n T) (s : Same lo hi w w') : Rows2 w' lo hi v n T := by
  obtain ⟨vs, h2, h3⟩ := h
  exact ⟨vs, h2.frame s, fun i hi => by obtain ⟨x, hx, k⟩ := h3 i hi; exact ⟨x, hx, k.frame s⟩⟩
theorem Rows2.get {w : World} {lo hi n c : Nat} {A : Option Addr} {T : Nat → List Int} (h : Rows2 w lo hi (.slice A n c) n T) (k : Nat) (hk : k < n) :
    ∃ b off x, A = some ⟨b, off, none⟩ ∧ lo ≤ b ∧ b < hi ∧ w.cell? ⟨b, off + k, none⟩ = some x ∧ Ints w lo hi x (T k) := by
  obtain ⟨vs, ⟨_, _, _, A', c', e, h4⟩, h3⟩ := h
  injection e with e1 e2 e3
  subst e1
  obtain ⟨b, off, rfl, h5, h6, h7⟩ := h4 (by omega)
  obtain ⟨x, hx, hxi⟩ := h3 k hk
  exact ⟨b, off, x, rfl, h5, h6, (h7 k (by omega)).trans hx, hxi⟩
theorem Rows2.form {w : World} {lo hi n : Nat} {v : Value} {T : Nat → List Int} (h : Rows2 w lo hi v n T) : n ≤ 9223372036854775807 ∧ ∃ A c, v = .slice A n c := by
  obtain ⟨vs, ⟨_, h1, h2, A, c, h3, _⟩, _⟩ := h
  exact ⟨by simpa [maxLen] using h2, A, c, h3⟩
/-- v is the program's graph G, all of it between the blocks lo and hi. -/
def PG (w : World) (lo hi : Nat) (v : Value) (G : Gr) : Prop :=
  G.Ok ∧ hi ≤ w.heap.size ∧ ∃ b m t c E, v = .pointer (some ⟨b, 0, none⟩) ∧ lo ≤ b ∧ b < hi ∧ w.heap[b]? = some (.cells #[.int .i64 (G.n : Int), .map (some m), .slice t G.n c] 102 (0, 0)) ∧
    lo ≤ m ∧ m < hi ∧ EMap w m E ∧ Tells E G ∧ Rows2 w lo hi (.slice t G.n c) G.n (fun u => up (G.nb u))
theorem PG.frame {w w' : World} {lo hi : Nat} {v : Value} {G : Gr} (h : PG w lo hi v G) (s : Same lo hi w w') : PG w' lo hi v G := by
  obtain ⟨h0, h1, b, m, t, c, E, h2, h3, h4, h5, h6, h7, h8, h9, h10⟩ := h
  exact ⟨h0, Nat.le_trans h1 s.1, b, m, t, c, E, h2, h3, h4, (s.2 b h3 h4).trans h5, h6, h7, h8.frame (s.2 m h6 h7), h9, h10.frame s⟩
theorem PG.at_ {w w' : World} {lo hi : Nat} {v : Value} {G : Gr} (h : PG w lo hi v G) (b : Below w.heap.size w w') : PG w' lo hi v G := h.frame (same_below b h.2.1)
theorem PG.ok {w : World} {lo hi : Nat} {v : Value} {G : Gr} (h : PG w lo hi v G) : G.Ok := h.1
/-- The cells of a graph's struct, as a walk wants them. -/
theorem cell_of {w : World} {b : Nat} {cs : Array Value} {t : TypeId} (h : w.heap[b]? = some (.cells cs t (0, 0))) (j : Nat) : w.cell? ⟨b, j, none⟩ = cs[j]? := by simp [World.cell?, h]
theorem free_of {w : World} {b : Nat} {cs : Array Value} {t : TypeId} (h : w.heap[b]? = some (.cells cs t (0, 0))) (j : Nat) : w.frozen? ⟨b, j, none⟩ = false := by simp [World.frozen?, h]
set_option maxHeartbeats 400000 in
theorem is_any (v n : Int) (w : World) :
    Calls Tryd.prog 68 #[.int .i64 v, .int .i64 n] w fun e w' => e = .returned (.bool (decide (0 ≤ v) && decide (v < n))) ∧ w = w' := by
  go_enter Tryd.func68, Tryd.ntmps68
  go_wp2
  all_goals go_ret
  · rename_i h
    exact ⟨by simp [h], rfl⟩
  · rename_i h
    exact ⟨by simp [Int.not_le.2 h], rfl⟩
set_option maxHeartbeats 400000 in
theorem key_any (u v : Int) (w : World) :
    Calls Tryd.prog 69 #[.int .i64 u, .int .i64 v] w fun e w' => e = .returned (kv (min u v) (max u v)) ∧ w' = w.alloc (.cells #[.int .i64 (min u v), .int .i64 (max u v)] 110) := by
  by_cases h : u ≤ v
  · rw [show min u v = u from by omega, show max u v = v from by omega]
    go_enter Tryd.func69, Tryd.ntmps69
    go_wp2
    · refine bodyPost_ret (v := kv u v) (by simp [results, Tryd.results69, go_sem, kv]) rfl ⟨rfl, rfl⟩
    · have e : v = u := by omega
      subst e
      refine bodyPost_ret (v := kv v v) (by simp [results, Tryd.results69, go_sem, kv]) rfl ⟨rfl, rfl⟩
  · rw [show min u v = v from by omega, show max u v = u from by omega]
    go_enter Tryd.func69, Tryd.ntmps69
    go_wp2
    refine bodyPost_ret (v := kv v u) (by simp [results, Tryd.results69, go_sem, kv]) rfl ⟨rfl, rfl⟩
set_option maxHeartbeats 400000 in
theorem N_any (w : World) {lo hi : Nat} {g : Value} {G : Gr} (h : PG w lo hi g G) :
    Calls Tryd.prog 30 #[g] w fun e w' => e = .returned (.int .i64 (G.n : Int)) ∧ w = w' := by
  obtain ⟨_, _, b, m, t, c, E, rfl, _, _, h1, _⟩ := h
  have c0 : w.cell? ⟨b, 0, none⟩ = some (.int .i64 (G.n : Int)) := cell_of h1 0
  clear h1
  go_enter Tryd.func30, Tryd.ntmps30
  go_wp2
  go_ret
  exact ⟨rfl, rfl⟩
end Go.Proofs.YthbojpaghbbnnaaDoor
namespace Go.Proofs.YthbojpaghbbnnaaDoor
set_option linter.unusedVariables false
section
variable {P : Program} {ops : Array Oper} {Q : Exit → Act → World → Prop} {md : Region.Mode} {S : World → Prop} {s : Nat}

/-- Whatever comes up from here on; S holds behind every operation but number s. -/
def anyT (P : Program) (md : Region.Mode) (ops : Array Oper) (Q : Exit → Act → World → Prop) (S : World → Prop) (s : Nat) : Nat → Array Bool → Act → World → Prop
  | 0, l, a, w => Region.ready md ops l = [] ∧ Q .normal a w
  | f + 1, l, a, w => (Region.ready md ops l = [] → Q .normal a w) ∧
    ∀ i ∈ Region.ready md ops l, wpOp P ops Q i (fun a' w' => (i ≠ s → S w') ∧ anyT P md ops Q S s f (l.setIfInBounds i true) a' w') a w
theorem any_of_T : ∀ (f : Nat) (l : Array Bool) (a : Act) (w : World), anyT P md ops Q S s f l a w → wpAny P md ops Q f l a w
  | 0, _, _, _, h => h
  | f + 1, _, _, _, h => ⟨h.1, fun i hi => wpOp_mono (fun a' w' k => any_of_T f _ a' w' k.2) (h.2 i hi)⟩
theorem region_T {id : Nat} {a : Act} {w : World} (hm : P.follows .mixedOrders = true) (S : World → Prop) (s : Nat) (hS : S w.drew)
    (h : S w.drew → anyT P .any ops Q S s ops.size (Array.replicate ops.size false) a w.drew) : (Code.region id ops true).wp P Q a w :=
  wp_region_any hm (any_of_T _ _ _ _ (h hS))
theorem firstT {i : Nat} {oi : Oper} {v : Value} (hi : ops[i]? = some oi) (hsel : ∀ (j : Nat) (o : Oper) cs b, ops[j]? = some o → o.op ≠ .select cs b) (his : i ≠ s)
    (hwait : ∀ o, ops[s]? = some o → ∃ e ∈ o.after, Region.binds md e = true ∧ e.on = i)
    (hQ : ∀ c a w, Q (.panic c) (a.put oi.dst v) w → Q (.panic c) a w) :
    ∀ (f : Nat) (l : Array Bool) (a : Act) (w : World),
      (∀ j oj, ops[j]? = some oj → j ≠ i → l.getD j true = false → (∀ e ∈ oj.after, Region.binds md e = true → e.on ≠ i) → oi.apart ops oj = true) →
      i ∈ Region.ready md ops l → YieldsIf P ops S oi v a → S w →
      anyT P md ops Q S s f (l.setIfInBounds i true) (a.put oi.dst v) w → anyT P md ops Q S s (f + 1) l a w
  | f, l, a, w, hfree, hr, hy, hS, H => by
    refine ⟨fun h => (by rw [h] at hr; cases hr), fun j hj => ?_⟩
    by_cases hji : j = i
    · subst hji
      exact hy.wpOp hi hS ⟨fun _ => hS, H⟩
    · have hj' := ready_mono hj hji
      cases f with
      | zero => rw [H.1] at hj'; cases hj'
      | succ f =>
        obtain ⟨hjun, oj, hoj, hall⟩ := mem_ready.1 hj
        have hnot : ∀ e ∈ oj.after, Region.binds md e = true → e.on ≠ i := fun e he hb heq => by
          have h1 := hall e he hb
          have h0 := (mem_ready.1 hr).1
          rw [heq] at h1
          rcases Nat.lt_or_ge i l.size with h' | h'
          · simp [h'] at h0 h1
            rw [h0] at h1
            cases h1
          · simp [Array.getElem?_eq_none h'] at h1
        have hjs : j ≠ s := by
          intro e
          subst e
          obtain ⟨e, he, hb, hon⟩ := hwait oj hoj
          exact hnot e he hb hon
        have h2 := wpOp_putIf hoj (hfree j oj hoj hji hjun hnot) (fun cs b => hsel i oi cs b hi) (fun cs b => hsel j oj cs b hoj) hQ hy (H.2 j hj')
        refine wpOp_mono (fun a' w' k => ?_) h2
        obtain ⟨k1, k2, k3⟩ := k
        refine ⟨k2, firstT hi hsel his hwait hQ f (l.setIfInBounds j true) a' w' (fun x ox hx hxi hun hno => ?_) (ready_mono hr (Ne.symm hji)) k1 (k2 hjs) ?_⟩
        · refine hfree x ox hx hxi ?_ hno
          by_cases hjx : j = x
          · subst hjx; exact hjun
          · rw [getD_set_ne true hjx] at hun; exact hun
        · rw [Array.setIfInBounds_comm _ _ hji]
          exact k3
def waitsB (md : Region.Mode) (ops : Array Oper) (s i : Nat) : Bool :=
  match ops[s]? with
  | some o => o.after.any fun e => Region.binds md e && e.on == i
  | none => true
theorem waitsB_spec {i : Nat} (h : waitsB md ops s i = true) : ∀ o, ops[s]? = some o → ∃ e ∈ o.after, Region.binds md e = true ∧ e.on = i := by
  intro o ho
  unfold waitsB at h
  rw [ho] at h
  obtain ⟨e, he, hb⟩ := Array.any_eq_true'.1 h
  simp only [Bool.and_eq_true, beq_iff_eq] at hb
  exact ⟨e, he, hb.1, hb.2⟩
/-- Number i first: it may come up, it yields v wherever S holds, and number s waits for it. -/
theorem takeT {i : Nat} {oi : Oper} {v : Value} {f : Nat} {l : Array Bool} {a : Act} {w : World} {d : Tmp} (hi : ops[i]? = some oi) (hd : oi.dst = some d)
    (hB : (Region.noSelect ops && Region.free md ops l i && (Region.ready md ops l).contains i && waitsB md ops s i && !(i == s)) = true)
    (hQ : ∀ c a w, Q (.panic c) (a.put oi.dst v) w → Q (.panic c) a w) (hw : Region.wanted oi (yielded ops a.tmps) = true) (hy : ∀ w', S w' → (execOp a.eval oi).run P w' = .ok (.value v) w') (hS : S w)
    (h : anyT P md ops Q S s f (l.setIfInBounds i true) (a.put (some d) v) w) : anyT P md ops Q S s (f + 1) l a w := by
  rw [← hd] at h
  simp only [Bool.and_eq_true, Bool.not_eq_true', beq_eq_false_iff_ne] at hB
  obtain ⟨⟨⟨⟨h1, h2⟩, h3⟩, h4⟩, h5⟩ := hB
  exact firstT hi (Region.noSelect_spec h1) h5 (waitsB_spec h4) hQ f l a w (Region.free_spec hi h2) (by simpa using h3) (.inl ⟨hw, hy⟩) hS h
/-- The one that may come up. -/
theorem oneT {i : Nat} {oi : Oper} {f : Nat} {l : Array Bool} {a : Act} {w : World} (hi : ops[i]? = some oi) (hr : Region.ready md ops l = [i])
    (h : ∀ K : Act → World → Prop, Shut (∀ a' w', (i ≠ s → S w') → anyT P md ops Q S s f (l.setIfInBounds i true) a' w' → K a' w') → if Region.wanted oi (yielded ops a.tmps) = true then Oper.wp P oi a w K Q else K (a.put oi.dst undef) w) :
    anyT P md ops Q S s (f + 1) l a w := by
  refine ⟨fun h0 => (by rw [hr] at h0; cases h0), fun j hj => ?_⟩
  rw [hr] at hj
  have hji : j = i := by simpa using hj
  subst hji
  exact wpOp_step hi (fun K hK => h K (fun a' w' h1 h2 => hK a' w' ⟨h1, h2⟩))
theorem doneT {l : Array Bool} {a : Act} {w : World} (hr : Region.ready md ops l = []) (h : Q .normal a w) : ∀ f, anyT P md ops Q S s f l a w
  | 0 => ⟨hr, h⟩
  | _ + 1 => ⟨fun _ => h, by rw [hr]; simp⟩
end
end Go.Proofs.YthbojpaghbbnnaaDoor
namespace Go.Proofs.YthbojpaghbbnnaaDoor
open Go.RowKit
set_option linter.unusedVariables false
set_option linter.unusedSimpArgs false
/-- Rows that the call owns, each at a block of its own: block tb holds the slices, T what they read as. -/
def RowsAt (w : World) (base tb n : Nat) (T : Nat → List Int) (vs : List Value) : Prop :=
  vs.length = n ∧ w.heap[tb]? = some (.cells vs.toArray 22 (0, 0)) ∧
    (∀ i, i < n → ∃ x, vs[i]? = some x ∧ w.ownsRow base 3 1 x (T i).length ((T i).map (Value.int .i64))) ∧
    (∀ (i j : Nat) (x y : Value), i ≠ j → vs[i]? = some x → vs[j]? = some y → x.ownBlock = none ∨ x.ownBlock ≠ y.ownBlock)
def OwnRows (w : World) (base tb n : Nat) (T : Nat → List Int) : Prop := ∃ vs, RowsAt w base tb n T vs
theorem RowsAt.kept {w w' : World} {base tb n : Nat} {T : Nat → List Int} {vs : List Value} {row : Option Nat} (h : RowsAt w base tb n T vs) (hg : w.grownBy w' row) (h1 : some tb ≠ row) (h2 : ∀ k, row = some k → k < base) : RowsAt w' base tb n T vs := by
  obtain ⟨a, b, c, d⟩ := h
  refine ⟨a, (hg.block tb (Array.getElem?_eq_some_iff.1 b).1 h1).trans b, fun i hi => ?_, d⟩
  obtain ⟨x, hx, hxo⟩ := c i hi
  refine ⟨x, hx, hxo.kept hg ?_⟩
  cases hb : x.ownBlock with
  | none => exact .inl rfl
  | some k =>
    right
    intro e
    have := h2 k e.symm
    have := (hxo.lt k hb).1
    omega
theorem OwnRows.kept {w w' : World} {base tb n : Nat} {T : Nat → List Int} {row : Option Nat} (h : OwnRows w base tb n T) (hg : w.grownBy w' row) (h1 : some tb ≠ row) (h2 : ∀ k, row = some k → k < base) : OwnRows w' base tb n T := by
  obtain ⟨vs, h⟩ := h
  exact ⟨vs, h.kept hg h1 h2⟩
theorem RowsAt.rows2 {w : World} {base tb n lo : Nat} {T : Nat → List Int} {vs : List Value} (h : RowsAt w base tb n T vs) (h1 : lo ≤ tb) (h2 : lo ≤ base) (hn : n ≤ 16777216) : Rows2 w lo w.heap.size (.slice (some ⟨tb, 0, none⟩) n n) n T := by
  obtain ⟨a, b, c, d⟩ := h
  refine ⟨vs, ⟨Nat.le_refl _, by omega, by unfold maxLen; omega, some ⟨tb, 0, none⟩, n, rfl, fun _ => ⟨tb, 0, rfl, h1, (Array.getElem?_eq_some_iff.1 b).1, fun j hj => ?_⟩⟩, fun i hi => ?_⟩
  · rw [cell_of b]
    simp
  · obtain ⟨x, hx, hxo⟩ := c i hi
    exact ⟨x, hx, (Sl1.own hxo).mono h2 (Nat.le_refl _) (Nat.le_refl _)⟩
theorem far_cell {W w' : World} {o : Obj} {row : Option Nat} (hg : ((W.alloc o).drew).grownBy w' row) {a : Addr} {v : Value} (h : W.cell? a = some v) (hne : some a.block ≠ row) : w'.cell? a = some v := by
  have hlt := World.block_lt_of_cell? W a h
  have e : (W.alloc o).drew.cell? a = W.cell? a := World.cell?_of_block (w := W) (Below.heap_alloc W o a.block hlt)
  exact hg.cell (e.trans h) hne
theorem far_frozen {W w' : World} {o : Obj} {row : Option Nat} (hg : ((W.alloc o).drew).grownBy w' row) {a : Addr} (hlt : a.block < W.heap.size) (hne : some a.block ≠ row) : w'.frozen? a = W.frozen? a := by
  have e : (W.alloc o).drew.frozen? a = W.frozen? a := World.frozen?_of_block (w := W) (Below.heap_alloc W o a.block hlt)
  exact (hg.frozen_far a (by simp; omega) hne).trans e
theorem far_block {W w' : World} {o : Obj} {row : Option Nat} (hg : ((W.alloc o).drew).grownBy w' row) {b : Nat} (hlt : b < W.heap.size) (hne : some b ≠ row) : w'.heap[b]? = W.heap[b]? :=
  (hg.block b (by simp; omega) hne).trans (Below.heap_alloc W o b hlt)
theorem set_block {w : World} {b i : Nat} {vs : List Value} {t : TypeId} (h : w.heap[b]? = some (.cells vs.toArray t (0, 0))) (v : Value) : (w.setCell ⟨b, i, none⟩ v).heap[b]? = some (.cells (vs.set i v).toArray t (0, 0)) := by
  have hlt := (Array.getElem?_eq_some_iff.1 h).1
  simp [World.setCell, Array.getElem?_modify, h]
theorem RowsAt.app {W w' : World} {base tb n i g cap : Nat} {T : Nat → List Int} {y : Int} {x : Value} {o : Obj} {vs : List Value} (h : RowsAt W base tb n T vs)
    (hi : i < n) (hx : vs[i]? = some x) (htb : tb < base) (hbase : base ≤ W.heap.size)
    (hg : ((W.alloc o).drew).grownBy w' x.ownBlock)
    (hown : w'.ownsRow base 3 1 (.slice (some ⟨g, 0, none⟩) ((T i).length + 1) cap) ((T i).length + 1) ((T i).map (Value.int .i64) ++ [.int .i64 y]))
    (hat : x.ownBlock = some g ∨ g = W.heap.size + 1) :
    RowsAt (w'.setCell ⟨tb, i, none⟩ (.slice (some ⟨g, 0, none⟩) ((T i).length + 1) cap)) base tb n (fun k => if k = i then T i ++ [y] else T k) (vs.set i (.slice (some ⟨g, 0, none⟩) ((T i).length + 1) cap)) := by
  obtain ⟨h1, h2, h3, h4⟩ := h
  have hxo : W.ownsRow base 3 1 x (T i).length ((T i).map (Value.int .i64)) := by
    obtain ⟨x', e, k⟩ := h3 i hi
    rw [hx] at e
    cases e
    exact k
  have hxb := hxo.lt
  have htbx : some tb ≠ x.ownBlock := fun e => by have := hxb tb e.symm; omega
  have htlt := (Array.getElem?_eq_some_iff.1 h2).1
  have h2' : w'.heap[tb]? = some (.cells vs.toArray 22 (0, 0)) := (far_block hg htlt htbx).trans h2
  refine ⟨by simpa using h1, set_block h2' _, fun k hk => ?_, fun k l a b hkl ha hb => ?_⟩
  · by_cases hki : k = i
    · subst hki
      refine ⟨_, by rw [List.getElem?_set_self (by omega)], ?_⟩
      simp only [if_true]
      rw [List.map_append, List.length_append]
      exact ownsRow_setCell_below hown htb _
    · obtain ⟨z, hz, hzo⟩ := h3 k hk
      refine ⟨z, by rw [List.getElem?_set_ne (Ne.symm hki)]; exact hz, ?_⟩
      simp only [if_neg hki]
      exact ownsRow_setCell_below (((hzo.alloc o).drew).kept hg (h4 k i z x hki hz hx)) htb _
  · by_cases hki : k = i
    · subst hki
      rw [List.getElem?_set_self (by omega)] at ha
      cases ha
      have hlk : l ≠ k := Ne.symm hkl
      rw [List.getElem?_set_ne hkl] at hb
      right
      rcases hat with hat | hat
      · have := h4 k l x b hkl hx hb
        rcases this with h | h
        · rw [hat] at h; cases h
        · rw [hat] at h; exact h
      · simp only [Value.ownBlock]
        intro e
        have hln : l < n := by rw [← h1]; exact (List.getElem?_eq_some_iff.1 hb).1
        obtain ⟨b', hb', hbo⟩ := h3 l hln
        rw [hb] at hb'
        cases hb'
        have := hbo.lt g e.symm
        omega
    · rw [List.getElem?_set_ne (Ne.symm hki)] at ha
      by_cases hli : l = i
      · subst hli
        rw [List.getElem?_set_self (by omega)] at hb
        cases hb
        cases hao : a.ownBlock with
        | none => exact .inl rfl
        | some q =>
          right
          simp only [Value.ownBlock]
          intro e
          injection e with e
          have hkn : k < n := by rw [← h1]; exact (List.getElem?_eq_some_iff.1 ha).1
          obtain ⟨a', ha', hao'⟩ := h3 k hkn
          rw [ha] at ha'
          cases ha'
          have hq := hao'.lt q hao
          rcases hat with hat | hat
          · rcases h4 k l a x hkl ha hx with h | h
            · rw [hao] at h; cases h
            · apply h; rw [hao, hat, e]
          · omega
      · rw [List.getElem?_set_ne (Ne.symm hli)] at hb
        exact h4 k l a b hkl ha hb
end Go.Proofs.YthbojpaghbbnnaaDoor
namespace Go.Proofs.YthbojpaghbbnnaaDoor
open Go.RowKit Go.WideMaps Go.Maps
set_option linter.unusedVariables false
set_option linter.unusedSimpArgs false
/-- What the rows hold when all of E but L has been gone through. -/
def Filled (E L : List (Int × Int)) (n : Nat) (T : Nat → List Int) : Prop :=
  ∀ i, i < n → (T i).Nodup ∧ ∀ x, x ∈ T i ↔ (((i : Int), x) ∈ E ∧ ((i : Int), x) ∉ L) ∨ ((x, (i : Int)) ∈ E ∧ (x, (i : Int)) ∉ L)
theorem filled_start (E : List (Int × Int)) (n : Nat) : Filled E E n (fun _ => []) := by
  intro i hi
  refine ⟨List.nodup_nil, fun x => ?_⟩
  simp
theorem nodup_bound {l : List Int} {n : Nat} (h : l.Nodup) (hb : ∀ x ∈ l, 0 ≤ x ∧ x < n) : l.length ≤ n := by
  have h1 : (l.map Int.toNat).Nodup := by
    unfold List.Nodup at *
    rw [List.pairwise_map]
    refine List.Pairwise.imp_of_mem ?_ h
    intro a b ha hb' hne e
    have := hb a ha
    have := hb b hb'
    omega
  have h2 : (l.map Int.toNat).Perm ((List.range n).filter (fun k => decide (k ∈ l.map Int.toNat))) := by
    refine perm_of_mem h1 (List.Pairwise.filter _ List.nodup_range) (fun x => ?_)
    rw [List.mem_filter, List.mem_range, decide_eq_true_eq]
    refine ⟨fun hx => ⟨?_, hx⟩, fun hx => hx.2⟩
    obtain ⟨y, hy, rfl⟩ := List.mem_map.1 hx
    have := hb y hy
    omega
  have h3 := h2.length_eq
  have h4 := List.length_filter_le (fun k => decide (k ∈ l.map Int.toNat)) (List.range n)
  rw [List.length_range] at h4
  rw [List.length_map] at h3
  omega
theorem Filled.bound {E L : List (Int × Int)} {n : Nat} {T : Nat → List Int} (h : Filled E L n T) (hr : ∀ p ∈ E, 0 ≤ p.1 ∧ p.1 < p.2 ∧ p.2 < n) {i : Nat} (hi : i < n) : (T i).length ≤ n := by
  refine nodup_bound (h i hi).1 (fun x hx => ?_)
  rcases ((h i hi).2 x).1 hx with k | k
  · have := hr _ k.1
    simp only at this
    omega
  · have := hr _ k.1
    simp only at this
    omega
theorem Filled.step {E L : List (Int × Int)} {n : Nat} {T : Nat → List Int} (h : Filled E L n T) (hr : ∀ p ∈ E, 0 ≤ p.1 ∧ p.1 < p.2 ∧ p.2 < n) {i j : Nat} (hij : i < j) (hjn : j < n) (hp : ((i : Int), (j : Int)) ∈ L) (hs : ∀ p ∈ L, p ∈ E) :
    Filled E (less L ((i : Int), (j : Int))) n (fun k => if k = j then (fun k => if k = i then T i ++ [(j : Int)] else T k) j ++ [(i : Int)] else (fun k => if k = i then T i ++ [(j : Int)] else T k) k) := by
  intro k hk
  have hE := hs _ hp
  have hno : ∀ a b : Int, (a, b) ∈ E → a < b := fun a b hab => (hr _ hab).2.1
  obtain ⟨hn, hm⟩ := h k hk
  have hmem : ∀ a b : Int, (a, b) ∉ less L ((i : Int), (j : Int)) ↔ (a, b) ∉ L ∨ (a = i ∧ b = j) := by
    intro a b
    rw [mem_less]
    simp only [ne_eq, Prod.mk.injEq]
    constructor
    · intro h0
      by_cases h1 : (a, b) ∈ L
      · right
        by_cases h2 : a = i ∧ b = j
        · exact h2
        · exact absurd ⟨h1, h2⟩ h0
      · exact .inl h1
    · rintro (h0 | h0) h1
      · exact h0 h1.1
      · exact h1.2 h0
  have hne : j ≠ i := by omega
  by_cases hkj : k = j
  · subst hkj
    simp only [if_true, if_neg hne]
    refine ⟨?_, fun x => ?_⟩
    · rw [List.nodup_append]
      refine ⟨hn, by simp, fun a ha b hb => ?_⟩
      have hb' : b = (i : Int) := by simpa using hb
      subst hb'
      intro e
      subst e
      rcases (hm _).1 ha with q | q
      · have := hno _ _ q.1; omega
      · exact q.2 hp
    · rw [List.mem_append, hm, hmem, hmem]
      constructor
      · rintro (q | q)
        · rcases q with q | q
          · exact .inl ⟨q.1, .inl q.2⟩
          · exact .inr ⟨q.1, .inl q.2⟩
        · have : x = (i : Int) := by simpa using q
          subst this
          exact .inr ⟨hE, .inr ⟨rfl, rfl⟩⟩
      · rintro (⟨q1, q2⟩ | ⟨q1, q2⟩)
        · rcases q2 with q2 | q2
          · exact .inl (.inl ⟨q1, q2⟩)
          · have := hno _ _ q1; omega
        · rcases q2 with q2 | q2
          · exact .inl (.inr ⟨q1, q2⟩)
          · right; simp [q2.1]
  · simp only [if_neg hkj]
    by_cases hki : k = i
    · subst hki
      simp only [if_true]
      refine ⟨?_, fun x => ?_⟩
      · rw [List.nodup_append]
        refine ⟨hn, by simp, fun a ha b hb => ?_⟩
        have hb' : b = (j : Int) := by simpa using hb
        subst hb'
        intro e
        subst e
        rcases (hm _).1 ha with q | q
        · exact q.2 hp
        · have := hno _ _ q.1; omega
      · rw [List.mem_append, hm, hmem, hmem]
        constructor
        · rintro (q | q)
          · rcases q with q | q
            · exact .inl ⟨q.1, .inl q.2⟩
            · exact .inr ⟨q.1, .inl q.2⟩
          · have : x = (j : Int) := by simpa using q
            subst this
            exact .inl ⟨hE, .inr ⟨rfl, rfl⟩⟩
        · rintro (⟨q1, q2⟩ | ⟨q1, q2⟩)
          · rcases q2 with q2 | q2
            · exact .inl (.inl ⟨q1, q2⟩)
            · right; simp [q2.2]
          · rcases q2 with q2 | q2
            · exact .inl (.inr ⟨q1, q2⟩)
            · have := hno _ _ q1; omega
    · simp only [if_neg hki]
      refine ⟨hn, fun x => ?_⟩
      rw [hm, hmem, hmem]
      constructor
      · rintro (q | q)
        · exact .inl ⟨q.1, .inl q.2⟩
        · exact .inr ⟨q.1, .inl q.2⟩
      · rintro (⟨q1, q2⟩ | ⟨q1, q2⟩)
        · rcases q2 with q2 | q2
          · exact .inl ⟨q1, q2⟩
          · omega
        · rcases q2 with q2 | q2
          · exact .inr ⟨q1, q2⟩
          · omega
end Go.Proofs.YthbojpaghbbnnaaDoor
namespace Go.Proofs.YthbojpaghbbnnaaDoor
open Go.RowKit
set_option linter.unusedVariables false
set_option linter.unusedSimpArgs false
section
variable {α : Type} {f : α → Value} {w : World} {base : Nat} {e : TypeId} {v : Value} {xs : List α}
/-- A row that the call owns: elements of one cell. -/
def Own1 (w : World) (base : Nat) (e : TypeId) (f : α → Value) (v : Value) (xs : List α) : Prop := w.ownsRow base e 1 v xs.length (xs.map f)
theorem Own1.nil (w : World) (base : Nat) (e : TypeId) (f : α → Value) : Own1 w base e f (.slice none 0 0) [] := World.ownsRow_nil w base e 1
theorem Own1.kept {w' : World} {row : Option Nat} (h : Own1 w base e f v xs) (hg : w.grownBy w' row) (hne : v.ownBlock = none ∨ v.ownBlock ≠ row) : Own1 w' base e f v xs := World.ownsRow.kept h hg hne
theorem Own1.alloc (h : Own1 w base e f v xs) (o : Obj) : Own1 (w.alloc o) base e f v xs := World.ownsRow.alloc h o
theorem Own1.drewN (h : Own1 w base e f v xs) (n : Nat) : Own1 (w.drewN n) base e f v xs := h
theorem Own1.below {w' : World} (h : Own1 w base e f v xs) (hb : Below w.heap.size w w') : Own1 w' base e f v xs := Own1.kept h (grown_of_below hb none) (by cases v.ownBlock <;> simp)
theorem Own1.lower {b' : Nat} (h : Own1 w base e f v xs) (hb : b' ≤ base) : Own1 w b' e f v xs := ownsRow_mono h hb
theorem Own1.sl (h : Own1 w base e f v xs) : Sl1 w base w.heap.size f v xs := Sl1.own h
theorem Own1.form (h : Own1 w base e f v xs) : xs.length ≤ 9223372036854775807 ∧ ∃ A c, v = .slice A xs.length c := h.sl.form
theorem Own1.ne {b : Nat} (h : Own1 w base e f v xs) (hb : b < base) : v.ownBlock ≠ some b := fun k => by have := (World.ownsRow.lt h b k).1; omega
theorem Own1.lt {b : Nat} (h : Own1 w base e f v xs) (hb : v.ownBlock = some b) : base ≤ b ∧ b < w.heap.size := World.ownsRow.lt h b hb
theorem Own1.get {A : Option Addr} {n c : Nat} (h : Own1 w base e f (.slice A n c) xs) (k : Nat) (hk : k < xs.length) :
    ∃ g x, A = some ⟨g, 0, none⟩ ∧ base ≤ g ∧ g < w.heap.size ∧ w.cell? ⟨g, k, none⟩ = some (f x) ∧ w.frozen? ⟨g, k, none⟩ = false ∧ Hid (xs[k]? = some x) := by
  rcases h.2 with ⟨h1, h2⟩ | ⟨g, cap, cur, h1, hb, hg, hn, hc, hs, ht⟩
  · omega
  · injection h1 with h1 h3 h4
    obtain ⟨x, hx⟩ : ∃ x, xs[k]? = some x := ⟨_, List.getElem?_eq_getElem hk⟩
    refine ⟨g, x, h1, hb, (Array.getElem?_eq_some_iff.1 hg).1, ?_, by simp [World.frozen?, hg], hx⟩
    have h5 : (cur.toList.take (xs.length * 1))[k]? = some (f x) := by rw [ht, List.getElem?_map, hx]; rfl
    rw [List.getElem?_take_of_lt (by omega)] at h5
    simp only [World.cell?, hg]
    simpa using h5
theorem Own1.cap {A : Option Addr} {n c : Nat} (h : Own1 w base e f (.slice A n c) xs) : xs.length ≤ c ∧ c ≤ 9223372036854775807 := by
  rcases h.2 with ⟨h1, h2⟩ | ⟨g, cap, cur, h1, hb, hg, hn, hc, hs, ht⟩
  · injection h1 with h1 h3 h4
    subst h4
    exact ⟨by omega, by omega⟩
  · injection h1 with h1 h3 h4
    subst h4
    exact ⟨hn, by simpa [maxLen] using hc⟩
theorem grown_set (w : World) (a : Addr) (u : Value) : w.grownBy (w.setCell a u) (some a.block) :=
  ⟨by simp [World.setCell], by simp [World.setCell], by simp [World.setCell], by rw [size_setCell]; exact Nat.le_refl _, fun k _ hne => Below.heap_setCell w a u k (fun e => hne (by rw [e]))⟩
theorem Own1.set {g n c : Nat} (h : Own1 w base e f (.slice (some ⟨g, 0, none⟩) n c) xs) (k : Nat) (hk : k < xs.length) (y : α) :
    Own1 (w.setCell ⟨g, k, none⟩ (f y)) base e f (.slice (some ⟨g, 0, none⟩) n c) (xs.set k y) := by
  rcases h.2 with ⟨h1, h2⟩ | ⟨g', cap, cur, h1, hb, hg, hn, hc, hs, ht⟩
  · omega
  · injection h1 with h1 h3 h4
    have e1 : g = g' := by injection h1 with h1; injection h1
    subst e1 h4
    have hblock : (w.setCell ⟨g, k, none⟩ (f y)).heap[g]? = some (.cells (cur.setIfInBounds k (f y)) e (0, 0)) := by
      have h0 : w.heap[g]? = some (.cells cur.toList.toArray e (0, 0)) := by simpa using hg
      simp only [World.setCell]
      have hlt := (Array.getElem?_eq_some_iff.1 hg).1
      rw [Array.getElem?_modify]
      simp [hg]
    refine ⟨by simp, .inr ⟨g, c, cur.setIfInBounds k (f y), by rw [h3]; simp, hb, hblock, by simpa using hn, hc, by simpa using hs, ?_⟩⟩
    rw [Array.toList_setIfInBounds, List.length_set, List.take_set, ht, List.map_set]
theorem Own1.pop {A : Option Addr} {n c : Nat} {x : α} (h : Own1 w base e f (.slice A n c) (xs ++ [x])) : Own1 w base e f (.slice A xs.length c) xs := by
  rcases h.2 with ⟨h1, h2⟩ | ⟨g, cap, cur, h1, hb, hg, hn, hc, hs, ht⟩
  · simp at h2
  · injection h1 with h1 h3 h4
    subst h4
    refine ⟨by simp, .inr ⟨g, c, cur, by rw [h1], hb, hg, by simp at hn; omega, hc, hs, ?_⟩⟩
    have h5 := congrArg (List.take (xs.length * 1)) ht
    rw [List.take_take] at h5
    rw [show min (xs.length * 1) ((xs ++ [x]).length * 1) = xs.length * 1 from by simp] at h5
    rw [h5, List.map_append, List.take_left' (by simp)]
end
theorem get_set_eq {α : Type} {xs : List α} {k : Nat} (y : α) (hk : k < xs.length) : (xs.set k y)[k]? = some y := by simp [hk]
theorem get_set_ne {α : Type} {xs : List α} {k j : Nat} (y : α) (h : k ≠ j) : (xs.set k y)[j]? = xs[j]? := by rw [List.getElem?_set_ne h]
end Go.Proofs.YthbojpaghbbnnaaDoor
namespace Go.Proofs.YthbojpaghbbnnaaDoor.Z
open Go Go.RowKit
set_option linter.unusedVariables false
/-- The shape of what a temporary holds. -/
inductive Sh where
  | un
  | und
  | v (t : T)
  | nls
  | nlp
  | row (i : Nat)
  | cut (i : Nat) (f : Bool)
  | adr (i k s : Nat) (t : T)
  | ref (t : T)
  | box (i k : Nat)
inductive OSh where
  | row (e : TypeId) (t : T)
  | cells (e : TypeId) (l : List Sh)
  | gone
structure Shape where
  tm : List Sh
  ob : List OSh
abbrev Vs : List Sh → Type
  | [] => Unit
  | .v t :: l => t.den × Vs l
  | .ref t :: l => t.den × Vs l
  | .cut _ _ :: l => Nat × Vs l
  | .adr _ _ _ _ :: l => Nat × Vs l
  | .un :: l => Vs l
  | .und :: l => Vs l
  | .nls :: l => Vs l
  | .nlp :: l => Vs l
  | .row _ :: l => Vs l
  | .box _ _ :: l => Vs l
abbrev Os : List OSh → Type
  | [] => Unit
  | .row _ t :: l => List t.den × Os l
  | .cells _ s :: l => Vs s × Os l
  | .gone :: l => Os l
abbrev VO (s : Shape) : Type := Vs s.tm × Os s.ob
def bT : (l : List Sh) → Vs l → List A
  | [], _ => []
  | .v t :: l, d => .v t d.1 :: bT l d.2
  | .ref t :: l, d => .ref t d.1 :: bT l d.2
  | .cut i f :: l, d => .cut i d.1 f :: bT l d.2
  | .adr i k s t :: l, d => .adr i d.1 k s t :: bT l d.2
  | .un :: l, d => .un :: bT l d
  | .und :: l, d => .und :: bT l d
  | .nls :: l, d => .nls :: bT l d
  | .nlp :: l, d => .nlp :: bT l d
  | .row i :: l, d => .row i :: bT l d
  | .box i k :: l, d => .box i k :: bT l d
def bO : (l : List OSh) → Os l → List Ob
  | [], _ => []
  | .row e t :: l, d => .row e t d.1 :: bO l d.2
  | .cells e s :: l, d => .cells e (bT s d.1) :: bO l d.2
  | .gone :: l, d => .gone :: bO l d
def bS (s : Shape) (d : VO s) : St := ⟨bT s.tm d.1, bO s.ob d.2⟩
def pT : (l : List Sh) → List A → Option (Vs l)
  | [], [] => some ()
  | .v t :: l, .v u x :: r => if h : u = t then (match pT l r with
    | some d => some (T.cast h x, d)
    | none => none) else none
  | .ref t :: l, .ref u x :: r => if h : u = t then (match pT l r with
    | some d => some (T.cast h x, d)
    | none => none) else none
  | .cut i f :: l, .cut j n g :: r => if i = j ∧ f = g then (match pT l r with
    | some d => some (n, d)
    | none => none) else none
  | .adr i k s t :: l, .adr i' j k' s' t' :: r => if i = i' ∧ k = k' ∧ s = s' ∧ t = t' then (match pT l r with
    | some d => some (j, d)
    | none => none) else none
  | .un :: l, .un :: r => pT l r
  | .und :: l, .und :: r => pT l r
  | .nls :: l, .nls :: r => pT l r
  | .nlp :: l, .nlp :: r => pT l r
  | .row i :: l, .row j :: r => if i = j then pT l r else none
  | .box i k :: l, .box j k' :: r => if i = j ∧ k = k' then pT l r else none
  | _, _ => none
def pO : (l : List OSh) → List Ob → Option (Os l)
  | [], [] => some ()
  | .row e t :: l, .row e' u xs :: r => if h : u = t ∧ e' = e then (match pO l r with
    | some d => some (T.cast (a := .list u) (b := .list t) (h.1 ▸ rfl) xs, d)
    | none => none) else none
  | .cells e s :: l, .cells e' xs :: r => if e' = e then (match pT s xs, pO l r with
    | some x, some d => some (x, d)
    | _, _ => none) else none
  | .gone :: l, .gone :: r => pO l r
  | _, _ => none
def pS (s : Shape) (st : St) : Option (VO s) :=
  match pT s.tm st.tm, pO s.ob st.ob with
  | some a, some b => some (a, b)
  | _, _ => none
theorem pT_ok : ∀ (l : List Sh) (r : List A) {d : Vs l}, pT l r = some d → r = bT l d := by
  intro l
  induction l with
  | nil =>
    intro r d h
    cases r with
    | nil => rfl
    | cons x r => simp [pT] at h
  | cons s l ih =>
    intro r d h
    cases r with
    | nil => cases s <;> simp [pT] at h
    | cons x r =>
      cases s <;> cases x <;> simp only [pT] at h <;> first | cases h | skip
      all_goals first
        | (rw [ih r h]; rfl)
        | (split at h
           · rename_i hc
             first
               | (rw [ih r h, hc]; rfl)
               | (obtain ⟨rfl, rfl⟩ := hc; rw [ih r h]; rfl)
               | (split at h
                  · rename_i d' hd'
                    injection h with h
                    first
                      | (obtain ⟨rfl, rfl, rfl, rfl⟩ := hc; subst h; rw [ih r hd']; rfl)
                      | (obtain ⟨rfl, rfl⟩ := hc; subst h; rw [ih r hd']; rfl)
                      | (subst hc; subst h; rw [ih r hd']; rfl)
                  · cases h)
           · cases h)
theorem pO_ok : ∀ (l : List OSh) (r : List Ob) {d : Os l}, pO l r = some d → r = bO l d := by
  intro l
  induction l with
  | nil =>
    intro r d h
    cases r with
    | nil => rfl
    | cons x r => simp [pO] at h
  | cons s l ih =>
    intro r d h
    cases r with
    | nil => cases s <;> simp [pO] at h
    | cons x r =>
      cases s <;> cases x <;> simp only [pO] at h <;> first | cases h | skip
      · split at h
        · rename_i hc
          split at h
          · rename_i d' hd'
            injection h with h
            obtain ⟨rfl, rfl⟩ := hc
            subst h
            rw [ih r hd']
            rfl
          · cases h
        · cases h
      · split at h
        · rename_i hc
          split at h
          · rename_i x' d' hx' hd'
            injection h with h
            subst hc
            subst h
            rw [ih r hd', pT_ok _ _ hx']
            rfl
          · cases h
        · cases h
      · rw [ih r h]
        rfl
theorem pS_ok {s : Shape} {st : St} {d : VO s} (h : pS s st = some d) : st = bS s d := by
  unfold pS at h
  split at h
  · rename_i a b ha hb
    injection h with h
    subst h
    cases st
    simp only [bS, St.mk.injEq]
    exact ⟨pT_ok _ _ ha, pO_ok _ _ hb⟩
  · cases h
structure Way where
  ex : Ex
  h : Head
  s : Shape
abbrev Xs : List Way → Type
  | [] => Unit
  | [w] => VO w.s
  | w :: w' :: l => VO w.s ⊕ Xs (w' :: l)
def alt {α β R : Type} (f : α → R) (g : β → R) : α ⊕ β → R
  | .inl a => f a
  | .inr b => g b
def exKs {R : Type} (K : Ex → St → Option R) : (l : List Way) → Xs l → Option R
  | [] => fun _ => none
  | [w] => fun d => K w.ex (bS w.s d)
  | w :: w' :: l => alt (fun d : VO w.s => K w.ex (bS w.s d)) (exKs K (w' :: l))
def exK {R : Type} (l : List Way) (z : Xs l) (K : Ex → St → Option R) : Option R := exKs K l z
def exE : (l : List Way) → Xs l → Ex
  | [], _ => .nm
  | [w], _ => w.ex
  | w :: _ :: _, .inl _ => w.ex
  | _ :: w' :: l, .inr d => exE (w' :: l) d
def exS : (l : List Way) → Xs l → St
  | [], _ => ⟨[], []⟩
  | [w], d => bS w.s d
  | w :: _ :: _, .inl d => bS w.s d
  | _ :: w' :: l, .inr d => exS (w' :: l) d
theorem exK_eq {R : Type} (K : Ex → St → Option R) : ∀ (l : List Way) (z : Xs l), l ≠ [] → exK l z K = K (exE l z) (exS l z)
  | [], _, h => absurd rfl h
  | [w], d, _ => rfl
  | w :: _ :: _, .inl d, _ => rfl
  | _ :: w' :: l, .inr d, _ => exK_eq K (w' :: l) d (by simp)
structure Lp where
  id : Nat
  h : Head
  s : Shape
  xs : List Way
  fin : VO s → Option (Xs xs)
def findLp : List Lp → Nat → Option Lp
  | [], _ => none
  | x :: l, i => if x.id = i then some x else findLp l i
def exB : Ex → Ex → Bool
  | .nm, .nm => true
  | .ex i, .ex j => i == j
  | .rt, .rt => true
  | _, _ => false
def findWay : List Way → Ex → Head
  | [], _ => ⟨[]⟩
  | w :: l, e => if exB w.ex e = true then w.h else findWay l e
def findOrd : List (Nat × List Nat) → Nat → List Nat
  | [], _ => []
  | (k, o) :: l, i => if k = i then o else findOrd l i
def lpK {R : Type} (L : Lp) (st : St) (K : Ex → St → Option R) : Option R :=
  match pS L.s st with
  | some d => match L.fin d with
    | some z => exK L.xs z K
    | none => none
  | none => none
def mkEnv (tab : Tab) (sg : List (FuncId × Sig)) (own : Nat) (ord : List (Nat × List Nat)) (ls : List Lp) : Env where
  tab := tab
  sg := sg
  ord := findOrd ord
  frk := fun _ => none
  head := fun i => match findLp ls i with
    | some L => L.h
    | none => ⟨[]⟩
  tail := fun i e => match findLp ls i with
    | some L => findWay L.xs e
    | none => ⟨[]⟩
  lp := fun i st {_} K => match findLp ls i with
    | some L => lpK L st K
    | none => none
  own := own
  fx := atn true (List.replicate own true)
/-- The same, some of the objects that are handed over being ones that may move. -/
def mkEnvF (tab : Tab) (sg : List (FuncId × Sig)) (own : Nat) (fx : List Bool) (ord : List (Nat × List Nat)) (ls : List Lp) : Env := { mkEnv tab sg own ord ls with fx := atn true fx }
def findOT : List (Nat × Ords) → Nat → Option Ords
  | [], _ => none
  | (k, t) :: l, i => if k = i then some t else findOT l i
/-- The same, some regions being walked in several orders. -/
def mkEnvK (tab : Tab) (sg : List (FuncId × Sig)) (own : Nat) (fx : List Bool) (ord : List (Nat × List Nat)) (ot : List (Nat × Ords)) (ls : List Lp) : Env := { mkEnv tab sg own ord ls with fx := atn true fx, frk := findOT ot }
/-- One round of loop L is what rd says. -/
def RoundIs (E : Env) (x : Code) (L : Lp) (rd : Rd (VO L.s) (Xs L.xs)) : Prop :=
  ∀ (R : Type) (v : VO L.s) (k : St → Option R) (kx : Ex → St → Option R), exec E x (bS L.s v) (fun e st' => match e with
    | .nm => canon E.own (E.head (firstRegion x)) st' k
    | .ex i => canon E.own (E.tail (firstRegion x) (.ex i)) st' (kx (.ex i))
    | .rt => canon E.own (E.tail (firstRegion x) .rt) st' (kx .rt)) = rd v (fun v' => k (bS L.s v')) (fun z => exK L.xs z kx)
def Ends (L : Lp) (rd : Rd (VO L.s) (Xs L.xs)) : Prop := ∀ v z, L.fin v = some z → ∃ m, ∀ (R : Type) (kx : Xs L.xs → Option R), it rd m v kx = kx z
theorem loopOk_lp {tab : Tab} {sg : List (FuncId × Sig)} {own : Nat} {ord : List (Nat × List Nat)} {ls : List Lp} {x : Code} {L : Lp} (hL : findLp ls (firstRegion x) = some L) (hx : L.xs ≠ []) {rd : Rd (VO L.s) (Xs L.xs)} (h1 : RoundIs (mkEnv tab sg own ord ls) x L rd) (hf : Ends L rd) : LoopOk (mkEnv tab sg own ord ls) x := by
  refine loopOk_of (rd := rd) (bS L.s) (fun z => (exE L.xs z, exS L.xs z)) L.fin (fun R v k kx => (h1 R v k kx).trans ?_) (fun st => ?_) hf
  · show rd v _ _ = rd v _ _
    congr 1
    funext z
    exact exK_eq kx L.xs z hx
  · have e : ∀ (R : Type) (K : Ex → St → Option R), (mkEnv tab sg own ord ls).lp (firstRegion x) st K = lpK L st K := fun R K => by
      simp only [mkEnv, hL]
    cases hp : pS L.s st with
    | none => exact .inl (fun R K => by rw [e]; simp only [lpK, hp])
    | some d =>
      refine .inr ⟨d, pS_ok hp, fun R K => ?_⟩
      rw [e]
      simp only [lpK, hp]
      cases L.fin d with
      | none => rfl
      | some z => exact exK_eq K L.xs z hx
theorem loopOk_lpF {tab : Tab} {sg : List (FuncId × Sig)} {own : Nat} {fx : List Bool} {ord : List (Nat × List Nat)} {ls : List Lp} {x : Code} {L : Lp} (hL : findLp ls (firstRegion x) = some L) (hx : L.xs ≠ []) {rd : Rd (VO L.s) (Xs L.xs)} (h1 : RoundIs (mkEnvF tab sg own fx ord ls) x L rd) (hf : Ends L rd) : LoopOk (mkEnvF tab sg own fx ord ls) x := by
  refine loopOk_of (rd := rd) (bS L.s) (fun z => (exE L.xs z, exS L.xs z)) L.fin (fun R v k kx => (h1 R v k kx).trans ?_) (fun st => ?_) hf
  · show rd v _ _ = rd v _ _
    congr 1
    funext z
    exact exK_eq kx L.xs z hx
  · have e : ∀ (R : Type) (K : Ex → St → Option R), (mkEnvF tab sg own fx ord ls).lp (firstRegion x) st K = lpK L st K := fun R K => by
      simp only [mkEnvF, mkEnv, hL]
    cases hp : pS L.s st with
    | none => exact .inl (fun R K => by rw [e]; simp only [lpK, hp])
    | some d =>
      refine .inr ⟨d, pS_ok hp, fun R K => ?_⟩
      rw [e]
      simp only [lpK, hp]
      cases L.fin d with
      | none => rfl
      | some z => exact exK_eq K L.xs z hx
theorem loopOk_lpK {tab : Tab} {sg : List (FuncId × Sig)} {own : Nat} {fx : List Bool} {ord : List (Nat × List Nat)} {ot : List (Nat × Ords)} {ls : List Lp} {x : Code} {L : Lp} (hL : findLp ls (firstRegion x) = some L) (hx : L.xs ≠ []) {rd : Rd (VO L.s) (Xs L.xs)} (h1 : RoundIs (mkEnvK tab sg own fx ord ot ls) x L rd) (hf : Ends L rd) : LoopOk (mkEnvK tab sg own fx ord ot ls) x := by
  refine loopOk_of (rd := rd) (bS L.s) (fun z => (exE L.xs z, exS L.xs z)) L.fin (fun R v k kx => (h1 R v k kx).trans ?_) (fun st => ?_) hf
  · show rd v _ _ = rd v _ _
    congr 1
    funext z
    exact exK_eq kx L.xs z hx
  · have e : ∀ (R : Type) (K : Ex → St → Option R), (mkEnvK tab sg own fx ord ot ls).lp (firstRegion x) st K = lpK L st K := fun R K => by
      simp only [mkEnvK, mkEnv, hL]
    cases hp : pS L.s st with
    | none => exact .inl (fun R K => by rw [e]; simp only [lpK, hp])
    | some d =>
      refine .inr ⟨d, pS_ok hp, fun R K => ?_⟩
      rw [e]
      simp only [lpK, hp]
      cases L.fin d with
      | none => rfl
      | some z => exact exK_eq K L.xs z hx
/-- A loop ends as it says if each round leads on to a smaller state with the same end, or to the end. -/
theorem ends_of {L : Lp} {rd : Rd (VO L.s) (Xs L.xs)} (μ : VO L.s → Nat) (h : ∀ v z, L.fin v = some z → (∃ v', μ v' < μ v ∧ L.fin v' = some z ∧ ∀ (R : Type) (k : VO L.s → Option R) (kx : Xs L.xs → Option R), rd v k kx = k v') ∨ ∀ (R : Type) (k : VO L.s → Option R) (kx : Xs L.xs → Option R), rd v k kx = kx z) : Ends L rd := by
  have key : ∀ (n : Nat) v z, μ v < n → L.fin v = some z → ∃ m, ∀ (R : Type) (kx : Xs L.xs → Option R), it rd m v kx = kx z := by
    intro n
    induction n with
    | zero => intro v z hv; omega
    | succ n ih =>
      intro v z hv hz
      rcases h v z hz with ⟨v', h1, h2, h3⟩ | h3
      · obtain ⟨m, hm⟩ := ih v' z (by omega) h2
        exact ⟨m + 1, fun R kx => by show rd v _ _ = _; rw [h3, hm]⟩
      · exact ⟨1, fun R kx => by show rd v _ _ = _; rw [h3]⟩
  exact fun v z hz => key (μ v + 1) v z (by omega) hz
/-- A part of a piece of code. -/
def sub : List Bool → Code → Code
  | [], c => c
  | false :: l, .seq a _ => sub l a
  | true :: l, .seq _ b => sub l b
  | false :: l, .cond _ a _ => sub l a
  | true :: l, .cond _ _ b => sub l b
  | _ :: l, .block _ a => sub l a
  | _ :: l, .loop a => sub l a
  | _, _ => .skip
theorem findSig_mem : ∀ {l : List (FuncId × Sig)} {f : FuncId} {s : Sig}, findSig l f = some s → (f, s) ∈ l
  | [], _, _, h => by simp [findSig] at h
  | (k, s') :: l, f, s, h => by
    unfold findSig at h
    split at h
    · rename_i e
      injection h with h
      subst e
      subst h
      exact List.mem_cons_self ..
    · exact List.mem_cons_of_mem _ (findSig_mem h)
theorem envOk_of {P : Program} {ρ : Obs} {tab : Tab} {sg : List (FuncId × Sig)} {own : Nat} {ord : List (Nat × List Nat)} {ls : List Lp} (ht : TabOk P tab) (h : ∀ p ∈ sg, Enters P p.1 ∧ Sound P ρ p.1 p.2) : EnvOk P ρ (mkEnv tab sg own ord ls) where
  tab := ht
  sg := fun f s hs => h (f, s) (findSig_mem hs)
theorem envOk_ofF {P : Program} {ρ : Obs} {tab : Tab} {sg : List (FuncId × Sig)} {own : Nat} {fx : List Bool} {ord : List (Nat × List Nat)} {ls : List Lp} (ht : TabOk P tab) (h : ∀ p ∈ sg, Enters P p.1 ∧ Sound P ρ p.1 p.2) : EnvOk P ρ (mkEnvF tab sg own fx ord ls) where
  tab := ht
  sg := fun f s hs => h (f, s) (findSig_mem hs)
theorem envOk_ofK {P : Program} {ρ : Obs} {tab : Tab} {sg : List (FuncId × Sig)} {own : Nat} {fx : List Bool} {ord : List (Nat × List Nat)} {ot : List (Nat × Ords)} {ls : List Lp} (ht : TabOk P tab) (h : ∀ p ∈ sg, Enters P p.1 ∧ Sound P ρ p.1 p.2) : EnvOk P ρ (mkEnvK tab sg own fx ord ot ls) where
  tab := ht
  sg := fun f s hs => h (f, s) (findSig_mem hs)
def FinAt {V X : Type} (rd : Rd V X) (v : V) (m : Nat) (z : X) : Prop := ∀ (R : Type) (kx : X → Option R), it rd m v kx = kx z
def FinLeast {V X : Type} (rd : Rd V X) (v : V) (z : X) : Prop := ∃ m, FinAt rd v m z ∧ ∀ m', m' < m → ∀ z', ¬ FinAt rd v m' z'
open Classical in
noncomputable def finOf {V X : Type} (rd : Rd V X) (v : V) : Option X := if h : ∃ z, FinLeast rd v z then some (Classical.choose h) else none
theorem finLeast_uniq {V X : Type} {rd : Rd V X} {v : V} {z z' : X} (h : FinLeast rd v z) (h' : FinLeast rd v z') : z = z' := by
  obtain ⟨m, h1, h2⟩ := h
  obtain ⟨m', h3, h4⟩ := h'
  have e : m = m' := by
    rcases Nat.lt_trichotomy m m' with q | q | q
    · exact absurd h1 (h4 m q z)
    · exact q
    · exact absurd h3 (h2 m' q z')
  subst e
  have a := h1 X some
  rw [h3 X some] at a
  injection a with a
  exact a.symm
theorem finOf_iff {V X : Type} {rd : Rd V X} {v : V} {z : X} : finOf rd v = some z ↔ FinLeast rd v z := by
  unfold finOf
  split
  · rename_i h
    constructor
    · intro e
      injection e with e
      exact e ▸ Classical.choose_spec h
    · intro k
      rw [finLeast_uniq (Classical.choose_spec h) k]
  · rename_i h
    constructor
    · intro e; cases e
    · intro k; exact absurd ⟨z, k⟩ h
theorem finAt_zero {V X : Type} {rd : Rd V X} {v : V} {z : X} : ¬ FinAt rd v 0 z := fun h => by
  have := h X some
  simp [it] at this
theorem finOf_step {V X : Type} {rd : Rd V X} {v v' : V} (h : ∀ (R : Type) (k : V → Option R) (kx : X → Option R), rd v k kx = k v') : finOf rd v = finOf rd v' := by
  have e : ∀ m z, FinAt rd v (m + 1) z ↔ FinAt rd v' m z := fun m z => by
    constructor
    · intro a R kx
      rw [← a R kx]
      show _ = rd v _ _
      rw [h]
    · intro a R kx
      rw [← a R kx]
      show rd v _ _ = _
      rw [h]
  have k : ∀ z, FinLeast rd v z ↔ FinLeast rd v' z := fun z => by
    constructor
    · rintro ⟨m, h1, h2⟩
      cases m with
      | zero => exact absurd h1 finAt_zero
      | succ m => exact ⟨m, (e m z).1 h1, fun m' hm z' hz => h2 (m' + 1) (by omega) z' ((e m' z').2 hz)⟩
    · rintro ⟨m, h1, h2⟩
      refine ⟨m + 1, (e m z).2 h1, fun m' hm z' hz => ?_⟩
      cases m' with
      | zero => exact finAt_zero hz
      | succ m' => exact h2 m' (by omega) z' ((e m' z').1 hz)
  cases hv : finOf rd v' with
  | some z => exact finOf_iff.2 ((k z).2 (finOf_iff.1 hv))
  | none =>
    cases hv' : finOf rd v with
    | none => rfl
    | some z => rw [finOf_iff.2 ((k z).1 (finOf_iff.1 hv'))] at hv; cases hv
theorem finOf_end {V X : Type} {rd : Rd V X} {v : V} {z : X} (h : ∀ (R : Type) (k : V → Option R) (kx : X → Option R), rd v k kx = kx z) : finOf rd v = some z :=
  finOf_iff.2 ⟨1, fun R kx => by show rd v _ _ = _; rw [h], fun m' hm z' hz => by
    obtain rfl : m' = 0 := by omega
    exact finAt_zero hz⟩
/-- A formula for a loop's summary. -/
theorem finOf_of {V X : Type} {rd : Rd V X} (C : V → Option X) (μ : V → Nat) (h : ∀ v z, C v = some z → (∃ v', μ v' < μ v ∧ C v' = some z ∧ ∀ (R : Type) (k : V → Option R) (kx : X → Option R), rd v k kx = k v') ∨ ∀ (R : Type) (k : V → Option R) (kx : X → Option R), rd v k kx = kx z) : ∀ v z, C v = some z → finOf rd v = some z := by
  have key : ∀ (n : Nat) v z, μ v < n → C v = some z → finOf rd v = some z := by
    intro n
    induction n with
    | zero => intro v z hv; omega
    | succ n ih =>
      intro v z hv hz
      rcases h v z hz with ⟨v', h1, h2, h3⟩ | h3
      · rw [finOf_step h3]
        exact ih v' z (by omega) h2
      · exact finOf_end h3
  exact fun v z hz => key (μ v + 1) v z (by omega) hz
theorem ends_fin {L : Lp} {rd : Rd (VO L.s) (Xs L.xs)} (h : ∀ v, L.fin v = finOf rd v) : Ends L rd := fun v z hz => by
  rw [h] at hz
  obtain ⟨m, h1, _⟩ := finOf_iff.1 hz
  exact ⟨m, h1⟩
def loopPaths : Code → List (List Bool)
  | .seq a b => (loopPaths a).map (false :: ·) ++ (loopPaths b).map (true :: ·)
  | .cond _ a b => (loopPaths a).map (false :: ·) ++ (loopPaths b).map (true :: ·)
  | .block _ a => (loopPaths a).map (false :: ·)
  | .loop a => [false] :: (loopPaths a).map (false :: ·)
  | _ => []
def regPaths (E : Env) : Code → List (List Bool)
  | .seq a b => (regPaths E a).map (false :: ·) ++ (regPaths E b).map (true :: ·)
  | .cond _ a b => (regPaths E a).map (false :: ·) ++ (regPaths E b).map (true :: ·)
  | .block _ a => (regPaths E a).map (false :: ·)
  | .loop a => (regPaths E a).map (false :: ·)
  | .region id _ _ => match E.rg id with
    | true => [[]]
    | false => []
  | _ => []
def RegOkC (E : Env) : Code → Prop
  | .region id o _ => RegOk E id o
  | _ => True
theorem loopsOk_pathsV {E : Env} : ∀ (c : Code), (∀ p ∈ loopPaths c, LoopOk E (sub p c)) → (∀ p ∈ regPaths E c, RegOkC E (sub p c)) → LoopsOk E c
  | .seq a b, h, g => ⟨loopsOk_pathsV a (fun p hp => h (false :: p) (by simp [loopPaths, hp])) (fun p hp => g (false :: p) (by simp [regPaths, hp])), loopsOk_pathsV b (fun p hp => h (true :: p) (by simp [loopPaths, hp])) (fun p hp => g (true :: p) (by simp [regPaths, hp]))⟩
  | .cond c a b, h, g => ⟨loopsOk_pathsV a (fun p hp => h (false :: p) (by simp [loopPaths, hp])) (fun p hp => g (false :: p) (by simp [regPaths, hp])), loopsOk_pathsV b (fun p hp => h (true :: p) (by simp [loopPaths, hp])) (fun p hp => g (true :: p) (by simp [regPaths, hp]))⟩
  | .block id a, h, g => loopsOk_pathsV a (fun p hp => h (false :: p) (by simp [loopPaths, hp])) (fun p hp => g (false :: p) (by simp [regPaths, hp]))
  | .loop a, h, g => ⟨h [false] (by simp [loopPaths]), loopsOk_pathsV a (fun p hp => h (false :: p) (by simp [loopPaths, hp])) (fun p hp => g (false :: p) (by simp [regPaths, hp]))⟩
  | .skip, _, _ => trivial
  | .region id o dr, _, g => by
    cases hr : E.rg id with
    | false => exact .inl hr
    | true => exact g [] (by simp [regPaths, hr])
  | .exit _, _, _ => trivial
  | .ret, _, _ => trivial
  | .rangeFunc _ _ _ _, _, _ => trivial
  | .scope _, _, _ => trivial
  | .label _, _, _ => trivial
  | .goto _, _, _ => trivial
  | .refuse _, _, _ => trivial
theorem loopsOk_ofV {E : Env} {c : Code} {l lr : List (List Bool)} (hl : loopPaths c = l) (hr : regPaths E c = lr) (h : ∀ p ∈ l, LoopOk E (sub p c)) (g : ∀ p ∈ lr, RegOkC E (sub p c)) : LoopsOk E c := loopsOk_pathsV c (fun p hp => h p (hl ▸ hp)) (fun p hp => g p (hr ▸ hp))
theorem loopsOk_paths {E : Env} (hr : ∀ id, E.rg id = false) : ∀ (c : Code), (∀ p ∈ loopPaths c, LoopOk E (sub p c)) → LoopsOk E c
  | .seq a b, h => ⟨loopsOk_paths hr a fun p hp => h (false :: p) (by simp [loopPaths, hp]), loopsOk_paths hr b fun p hp => h (true :: p) (by simp [loopPaths, hp])⟩
  | .cond c a b, h => ⟨loopsOk_paths hr a fun p hp => h (false :: p) (by simp [loopPaths, hp]), loopsOk_paths hr b fun p hp => h (true :: p) (by simp [loopPaths, hp])⟩
  | .block id a, h => loopsOk_paths hr a fun p hp => h (false :: p) (by simp [loopPaths, hp])
  | .loop a, h => ⟨h [false] (by simp [loopPaths]), loopsOk_paths hr a fun p hp => h (false :: p) (by simp [loopPaths, hp])⟩
  | .skip, _ => trivial
  | .region id _ _, _ => .inl (hr id)
  | .exit _, _ => trivial
  | .ret, _ => trivial
  | .rangeFunc _ _ _ _, _ => trivial
  | .scope _, _ => trivial
  | .label _, _ => trivial
  | .goto _, _ => trivial
  | .refuse _, _ => trivial
theorem loopsOk_of {E : Env} {c : Code} {l : List (List Bool)} (hl : loopPaths c = l) (h : ∀ p ∈ l, LoopOk E (sub p c)) (hr : ∀ id, E.rg id = false := by intro id; rfl) : LoopsOk E c := loopsOk_paths hr c (fun p hp => h p (hl ▸ hp))
theorem wr {n : Int} (h1 : -9223372036854775808 ≤ n) (h2 : n ≤ 9223372036854775807) : IntKind.wrap .i64 n = n := by
  rw [IntKind.wrap_i64]; omega
theorem drop_getD {α : Type} (d : α) (l : List α) (i : Nat) (h : i < l.length) : l.drop i = l.getD i d :: l.drop (i + 1) := by
  rw [List.drop_eq_getElem_cons h]
  simp [List.getD, h]
theorem mem_getD {α : Type} (d : α) (l : List α) (i : Nat) (h : i < l.length) : l.getD i d ∈ l := by
  simp [List.getD, h]
end Go.Proofs.YthbojpaghbbnnaaDoor.Z
namespace Go.Proofs.YthbojpaghbbnnaaDoor.Z
open Go Go.RowKit
set_option linter.unusedVariables false
abbrev U64 : T := .int .u64
/-- A layout: where each shard ends. -/
abbrev Ly : T := .one (.list I64)
abbrev Li : T := .pair I64 (.list I64)
abbrev Ck : T := .pair I64 (.pair (.list I64) (.list .bool))
abbrev Sa : T := .pair (.list I64) (.pair (.list I64) (.pair .bool Ck))
abbrev Ps : T := .pair (.list I64) (.pair I64 (.list I64))
abbrev Es : T := .pair (.ptr Ly) (.pair (.list I64) (.pair (.list I64) (.pair (.list U64) (.pair I64 (.pair .bool (.pair I64 (.pair I64 (.list I64))))))))
abbrev Rs : T := .pair (.list I64) (.pair (.list I64) (.pair (.list I64) (.pair (.list .bool) (.pair I64 (.pair .bool (.pair I64 I64))))))
def tabD : Tab := [
  (3, ⟨I64, .sc, 8⟩),
  (4, ⟨.bool, .sc, 1⟩),
  (97, ⟨U64, .sc, 8⟩),
  (40, ⟨I64, .sc, 8⟩),
  (22, ⟨.list I64, .sl 3, 24⟩),
  (23, ⟨.list .bool, .sl 4, 24⟩),
  (91, ⟨.list U64, .sl 97, 24⟩),
  (84, ⟨Pr, .st [(0, 3), (1, 3)], 16⟩),
  (35, ⟨.list Pr, .sl 84, 24⟩),
  (74, ⟨Li, .st [(0, 3), (1, 22)], 32⟩),
  (59, ⟨.list Li, .sl 74, 24⟩),
  (25, ⟨Ck, .st [(0, 3), (1, 22), (2, 23)], 56⟩),
  (27, ⟨Sa, .st [(0, 22), (1, 22), (2, 4), (3, 25)], 112⟩),
  (48, ⟨Ps, .st [(0, 22), (1, 3), (2, 22)], 56⟩),
  (36, ⟨.obj 0, .ptr, 8⟩),
  (95, ⟨Ly, .st [(0, 22)], 24⟩),
  (37, ⟨.ptr Ly, .ptr, 8⟩),
  (93, ⟨Es, .st [(0, 37), (1, 22), (2, 22), (3, 91), (4, 3), (5, 4), (6, 3), (7, 3), (8, 22)], 136⟩),
  (30, ⟨.ptr Es, .ptr, 8⟩),
  (107, ⟨Rs, .st [(0, 22), (1, 22), (2, 22), (3, 23), (4, 3), (5, 4), (6, 3), (7, 3)], 128⟩),
  (31, ⟨.ptr Rs, .ptr, 8⟩)]
theorem tabDOk : TabOk Tryd.prog tabD := by
  refine tabOk_of ?_
  unfold tabD
  simp only [List.forall_mem_cons]
  refine ⟨?_, ?_, ?_, ?_, ?_, ?_, ?_, ?_, ?_, ?_, ?_, ?_, ?_, ?_, ?_, ?_, ?_, ?_, ?_, ?_, ?_, fun p hp => by cases hp⟩
  · exact ⟨by kernel_rfl, by decide, .inl ⟨_, rfl, by kernel_rfl⟩⟩
  · exact ⟨by kernel_rfl, by decide, .inr (.inl ⟨rfl, by kernel_rfl⟩)⟩
  · exact ⟨by kernel_rfl, by decide, .inl ⟨_, rfl, by kernel_rfl⟩⟩
  · exact ⟨by kernel_rfl, by decide, .inl ⟨_, rfl, by kernel_rfl⟩⟩
  · exact ⟨by kernel_rfl, by decide, by kernel_rfl, _, rfl, rfl⟩
  · exact ⟨by kernel_rfl, by decide, by kernel_rfl, _, rfl, rfl⟩
  · exact ⟨by kernel_rfl, by decide, by kernel_rfl, _, rfl, rfl⟩
  · exact ⟨by kernel_rfl, by decide, st_ok rfl (by kernel_rfl) (by simp [Tab.find])⟩
  · exact ⟨by kernel_rfl, by decide, by kernel_rfl, _, rfl, rfl⟩
  · exact ⟨by kernel_rfl, by decide, st_ok rfl (by kernel_rfl) (by simp [Tab.find])⟩
  · exact ⟨by kernel_rfl, by decide, by kernel_rfl, _, rfl, rfl⟩
  · exact ⟨by kernel_rfl, by decide, st_ok rfl (by kernel_rfl) (by simp [Tab.find])⟩
  · exact ⟨by kernel_rfl, by decide, st_ok rfl (by kernel_rfl) (by simp [Tab.find])⟩
  · exact ⟨by kernel_rfl, by decide, st_ok rfl (by kernel_rfl) (by simp [Tab.find])⟩
  · exact ⟨by kernel_rfl, by decide, rfl, 102, by kernel_rfl⟩
  · exact ⟨by kernel_rfl, by decide, st_ok rfl (by kernel_rfl) (by simp [Tab.find])⟩
  · exact ⟨by kernel_rfl, by decide, rfl, 95, by kernel_rfl⟩
  · exact ⟨by kernel_rfl, by decide, st_ok rfl (by kernel_rfl) (by simp [Tab.find])⟩
  · exact ⟨by kernel_rfl, by decide, rfl, 93, by kernel_rfl⟩
  · exact ⟨by kernel_rfl, by decide, st_ok rfl (by kernel_rfl) (by simp [Tab.find])⟩
  · exact ⟨by kernel_rfl, by decide, rfl, 107, by kernel_rfl⟩
end Go.Proofs.YthbojpaghbbnnaaDoor.Z
namespace Go.Proofs.YthbojpaghbbnnaaDoor.Z
set_option linter.unusedVariables false
set_option linter.unusedSimpArgs false
section
variable {V X : Type} {A : V → Prop} {B : X → Prop}
/-- One round leads on to a state of A, or out with B. -/
def Led (f : ∀ (R : Type), (V → Option R) → (X → Option R) → Option R) (A : V → Prop) (B : X → Prop) : Prop :=
  (∃ v, A v ∧ ∀ R k kx, f R k kx = k v) ∨ ∃ z, B z ∧ ∀ R k kx, f R k kx = kx z
theorem led_k {v : V} (h : A v) : Led (fun _ k _ => k v) A B := .inl ⟨v, h, fun _ _ _ => rfl⟩
theorem led_x {z : X} (h : B z) : Led (fun _ _ kx => kx z) A B := .inr ⟨z, h, fun _ _ _ => rfl⟩
theorem led_eq {f g : ∀ (R : Type), (V → Option R) → (X → Option R) → Option R} (e : ∀ R k kx, f R k kx = g R k kx) (h : Led g A B) : Led f A B := by
  rcases h with ⟨v, h1, h2⟩ | ⟨z, h1, h2⟩
  · exact .inl ⟨v, h1, fun R k kx => (e R k kx).trans (h2 R k kx)⟩
  · exact .inr ⟨z, h1, fun R k kx => (e R k kx).trans (h2 R k kx)⟩
theorem led_if {c : Prop} [Decidable c] {f g : ∀ (R : Type), (V → Option R) → (X → Option R) → Option R} (h1 : c → Led f A B) (h2 : ¬ c → Led g A B) : Led (fun R k kx => if c then f R k kx else g R k kx) A B := by
  by_cases h : c
  · exact led_eq (fun R k kx => if_pos h) (h1 h)
  · exact led_eq (fun R k kx => if_neg h) (h2 h)
theorem led_dif {c : Prop} [Decidable c] {f g : ∀ (R : Type), (V → Option R) → (X → Option R) → Option R} (h1 : c → Led f A B) (h2 : ¬ c → Led g A B) : Led (fun R k kx => if Decidable.decide c = true then f R k kx else g R k kx) A B :=
  led_if (fun h => h1 (of_decide_eq_true h)) (fun h => h2 (fun k => h (decide_eq_true k)))
theorem led_need {c : Prop} [Decidable c] {f : ∀ (R : Type), (V → Option R) → (X → Option R) → Option R} (hc : c) (h : Led f A B) : Led (fun R k kx => if c then f R k kx else none) A B := led_eq (fun R k kx => if_pos hc) h
theorem led_yes {c : Prop} [Decidable c] {f g : ∀ (R : Type), (V → Option R) → (X → Option R) → Option R} (hc : c) (h : Led f A B) : Led (fun R k kx => if c then f R k kx else g R k kx) A B := led_eq (fun R k kx => if_pos hc) h
theorem led_no {c : Prop} [Decidable c] {f g : ∀ (R : Type), (V → Option R) → (X → Option R) → Option R} (hc : ¬ c) (h : Led g A B) : Led (fun R k kx => if c then f R k kx else g R k kx) A B := led_eq (fun R k kx => if_neg hc) h
theorem led_mono {f : ∀ (R : Type), (V → Option R) → (X → Option R) → Option R} {A' : V → Prop} {B' : X → Prop} (h : Led f A B) (hA : ∀ v, A v → A' v) (hB : ∀ z, B z → B' z) : Led f A' B' :=
  h.imp (fun ⟨v, a, b⟩ => ⟨v, hA v a, b⟩) (fun ⟨z, a, b⟩ => ⟨z, hB z a, b⟩)
/-- A loop whose rounds keep I, and lessen μ, ends with Q. -/
theorem finOf_inv {rd : Rd V X} (I : V → Prop) (μ : V → Nat) (Q : X → Prop) (h : ∀ v, I v → Led (fun _ k kx => rd v k kx) (fun v' => I v' ∧ μ v' < μ v) Q) : ∀ v, I v → ∃ z, finOf rd v = some z ∧ Q z := by
  have key : ∀ (n : Nat) v, μ v < n → I v → ∃ z, finOf rd v = some z ∧ Q z := by
    intro n
    induction n with
    | zero => intro v hv; omega
    | succ n ih =>
      intro v hv hi
      rcases h v hi with ⟨v', ⟨h1, h2⟩, h3⟩ | ⟨z, h1, h3⟩
      · rw [finOf_step h3]
        exact ih v' (by omega) h1
      · exact ⟨z, finOf_end h3, h1⟩
  exact fun v hv => key (μ v + 1) v (by omega) hv
end
section
variable {D : Type} {Q : D → Prop}
def Wp (o : Option D) (Q : D → Prop) : Prop := ∃ x, o = some x ∧ Q x
theorem wp_some {x : D} (h : Q x) : Wp (some x) Q := ⟨x, rfl, h⟩
theorem wp_if {c : Prop} [Decidable c] {a b : Option D} (h1 : c → Wp a Q) (h2 : ¬ c → Wp b Q) : Wp (if c then a else b) Q := by
  by_cases h : c
  · rw [if_pos h]; exact h1 h
  · rw [if_neg h]; exact h2 h
theorem wp_dif {c : Prop} [Decidable c] {a b : Option D} (h1 : c → Wp a Q) (h2 : ¬ c → Wp b Q) : Wp (if Decidable.decide c = true then a else b) Q :=
  wp_if (fun h => h1 (of_decide_eq_true h)) (fun h => h2 (fun k => h (decide_eq_true k)))
theorem wp_need {c : Prop} [Decidable c] {a : Option D} (hc : c) (h : Wp a Q) : Wp (if c then a else none) Q := by rw [if_pos hc]; exact h
theorem wp_yes {c : Prop} [Decidable c] {a b : Option D} (hc : c) (h : Wp a Q) : Wp (if c then a else b) Q := by rw [if_pos hc]; exact h
theorem wp_no {c : Prop} [Decidable c] {a b : Option D} (hc : ¬ c) (h : Wp b Q) : Wp (if c then a else b) Q := by rw [if_neg hc]; exact h
end
theorem take_snoc {α : Type} (d : α) (l : List α) (i : Nat) (h : i < l.length) : l.take (i + 1) = l.take i ++ [l.getD i d] := by
  rw [List.take_add_one, List.getElem?_eq_getElem h]
  simp [List.getD, h]
theorem take_all {α : Type} {l : List α} {i : Nat} (h : l.length ≤ i) : l.take i = l := List.take_of_length_le h
theorem mem_idx {α : Type} (d : α) {l : List α} {p : α} : p ∈ l ↔ ∃ j, j < l.length ∧ l.getD j d = p := by
  constructor
  · intro h
    obtain ⟨j, hj, e⟩ := List.getElem_of_mem h
    exact ⟨j, hj, by rw [List.getD_eq_getElem?_getD, List.getElem?_eq_getElem hj, e]; rfl⟩
  · rintro ⟨j, hj, rfl⟩
    exact mem_getD d l j hj
theorem getD_setP {α : Type} (l : List α) (i j : Nat) (x d : α) : (l.set i x).getD j d = if i = j ∧ i < l.length then x else l.getD j d := by
  simp only [List.getD_eq_getElem?_getD, List.getElem?_set]
  by_cases h : i = j
  · subst h
    by_cases k : i < l.length
    · simp [k]
    · simp [k]
  · simp [h]
theorem and_need {a b : Bool} (ha : a = true) (hb : b = true) : (a && b) = true := by rw [ha, hb]; rfl
end Go.Proofs.YthbojpaghbbnnaaDoor.Z
namespace Go.Proofs.YthbojpaghbbnnaaDoor.Hx
set_option linter.unusedVariables false
set_option linter.unusedSimpArgs false
def over (l : List Int) (h : Int) : Int := (l.countP (fun x => decide (x ≥ h)) : Nat)
def top (l : List Int) (most : Int) : Nat → Nat
  | 0 => 0
  | h + 1 => if ((h + 1 : Nat) : Int) ≤ most ∧ over l ((h + 1 : Nat) : Int) ≥ ((h + 1 : Nat) : Int) then h + 1 else top l most h
def hOf (l : List Int) (most : Int) : Int := (top l most l.length : Nat)
theorem over_nonneg (l : List Int) (h : Int) : 0 ≤ over l h := Int.natCast_nonneg _
theorem over_le (l : List Int) (h : Int) : over l h ≤ l.length := by
  unfold over
  have := List.countP_le_length (p := fun x : Int => decide (x ≥ h)) (l := l)
  omega
theorem over_cons (x : Int) (l : List Int) (h : Int) : over (x :: l) h = over l h + if x ≥ h then 1 else 0 := by
  unfold over
  rw [List.countP_cons]
  by_cases k : x ≥ h <;> simp [k]
structure IsH (l : List Int) (m h : Int) : Prop where
  nonneg : 0 ≤ h
  most : h = 0 ∨ h ≤ m
  holds : h ≤ over l h
  best : ∀ h', 0 < h' → h' ≤ m → h' ≤ over l h' → h' ≤ h
theorem IsH.uniq {l : List Int} {m a b : Int} (h : IsH l m a) (k : IsH l m b) : a = b := by
  have h1 : a ≤ b := by
    rcases Int.lt_or_le 0 a with q | q
    · exact k.best a q (h.most.elim (fun e => by omega) id) h.holds
    · have := k.nonneg; omega
  have h2 : b ≤ a := by
    rcases Int.lt_or_le 0 b with q | q
    · exact h.best b q (k.most.elim (fun e => by omega) id) k.holds
    · have := h.nonneg; omega
  omega
theorem top_is (l : List Int) (m : Int) : ∀ k : Nat, (top l m k : Int) ≤ k ∧ ((top l m k : Int) = 0 ∨ (top l m k : Int) ≤ m) ∧ (top l m k : Int) ≤ over l (top l m k) ∧ ∀ h' : Int, 0 < h' → h' ≤ k → h' ≤ m → h' ≤ over l h' → h' ≤ top l m k
  | 0 => ⟨by simp [top], .inl rfl, over_nonneg _ _, fun h' a b => by omega⟩
  | k + 1 => by
    obtain ⟨h1, h2, h3, h4⟩ := top_is l m k
    unfold top
    split
    · rename_i h
      exact ⟨Int.le_refl _, .inr h.1, h.2, fun h' _ b _ _ => b⟩
    · rename_i h
      refine ⟨by omega, h2, h3, fun h' a b c d => ?_⟩
      by_cases e : h' = ((k + 1 : Nat) : Int)
      · subst e
        exact absurd ⟨c, d⟩ h
      · exact h4 h' a (by omega) c d
theorem hOf_is (l : List Int) (m : Int) : IsH l m (hOf l m) := by
  obtain ⟨h1, h2, h3, h4⟩ := top_is l m l.length
  refine ⟨Int.natCast_nonneg _, h2, h3, fun h' a b c => h4 h' a ?_ b c⟩
  have := over_le l h'
  omega
theorem hOf_le {l : List Int} {m : Int} (hm : 0 ≤ m) : hOf l m ≤ m := (hOf_is l m).most.elim (fun e => by omega) id
theorem hOf_nonneg (l : List Int) (m : Int) : 0 ≤ hOf l m := (hOf_is l m).nonneg
/-- h stands iff so many are above it. -/
theorem hOf_eq_iff {l : List Int} {m : Int} (hm : 0 ≤ m) : hOf l m = m ↔ m ≤ over l m := by
  constructor
  · intro e
    have := (hOf_is l m).holds
    rwa [e] at this
  · intro h
    refine (hOf_is l m).uniq ⟨hm, .inr (Int.le_refl _), h, fun _ _ b _ => b⟩
abbrev St := List Int × Int × Bool
def vals (nb : List Int) (est : List Int) : List Int := nb.map (fun u => est.getD u.toNat 0)
def aheadOf (nb : List Int) (v : Nat) (est : List Int) (h old : Int) : Bool := nb.any (fun u => decide (u < (v : Int)) && (decide (est.getD u.toNat 0 > h) && decide (est.getD u.toNat 0 ≤ old)))
def swStep (nbs : Nat → List Int) (s : St) (v : Nat) : St :=
  if hOf (vals (nbs v) s.1) (s.1.getD v 0) ≥ s.1.getD v 0 then s
  else (s.1.set v (hOf (vals (nbs v) s.1) (s.1.getD v 0)), s.2.1 + 1, s.2.2 || aheadOf (nbs v) v (s.1.set v (hOf (vals (nbs v) s.1) (s.1.getD v 0))) (hOf (vals (nbs v) s.1) (s.1.getD v 0)) (s.1.getD v 0))
def sweepTo (nbs : Nat → List Int) (est : List Int) (k : Nat) : St := (List.range k).foldl (swStep nbs) (est, 0, false)
theorem sweepTo_succ (nbs : Nat → List Int) (est : List Int) (k : Nat) : sweepTo nbs est (k + 1) = swStep nbs (sweepTo nbs est k) k := by
  simp [sweepTo, List.range_succ, List.foldl_append]
theorem getD_set (l : List Int) (i j : Nat) (x d : Int) : (l.set i x).getD j d = if i = j ∧ i < l.length then x else l.getD j d := by
  simp only [List.getD_eq_getElem?_getD, List.getElem?_set]
  by_cases h : i = j
  · subst h
    by_cases k : i < l.length
    · simp [k]
    · simp [k]
  · simp [h]
theorem step_len (nbs : Nat → List Int) (s : St) (v : Nat) : (swStep nbs s v).1.length = s.1.length := by
  unfold swStep; split <;> simp
theorem sweepTo_len (nbs : Nat → List Int) (est : List Int) (k : Nat) : (sweepTo nbs est k).1.length = est.length := by
  induction k with
  | zero => rfl
  | succ k ih => rw [sweepTo_succ, step_len, ih]
/-- A step turns v alone, and lowers it. -/
theorem step_getD (nbs : Nat → List Int) (s : St) (v j : Nat) (hv : v < s.1.length) : (swStep nbs s v).1.getD j 0 = if v = j then min (s.1.getD v 0) (hOf (vals (nbs v) s.1) (s.1.getD v 0)) else s.1.getD j 0 := by
  unfold swStep
  split
  · split
    · rename_i h e; subst e; omega
    · rfl
  · rename_i h
    simp only [getD_set]
    by_cases e : v = j
    · subst e
      rw [if_pos ⟨rfl, hv⟩, if_pos rfl]; omega
    · rw [if_neg (fun k => e k.1), if_neg e]
theorem step_le (nbs : Nat → List Int) (s : St) (v j : Nat) (hv : v < s.1.length) : (swStep nbs s v).1.getD j 0 ≤ s.1.getD j 0 := by
  rw [step_getD nbs s v j hv]
  split
  · rename_i e; subst e; omega
  · exact Int.le_refl _
theorem step_nonneg {nbs : Nat → List Int} {s : St} {v : Nat} (hv : v < s.1.length) (h : ∀ j, 0 ≤ s.1.getD j 0) : ∀ j, 0 ≤ (swStep nbs s v).1.getD j 0 := fun j => by
  rw [step_getD nbs s v j hv]
  have := hOf_nonneg (vals (nbs v) s.1) (s.1.getD v 0)
  have := h v
  have := h j
  split <;> omega
theorem sweepTo_le (nbs : Nat → List Int) (est : List Int) (k : Nat) (hk : k ≤ est.length) (j : Nat) : (sweepTo nbs est k).1.getD j 0 ≤ est.getD j 0 := by
  induction k with
  | zero => exact Int.le_refl _
  | succ k ih =>
    rw [sweepTo_succ]
    exact Int.le_trans (step_le nbs _ k j (by rw [sweepTo_len]; omega)) (ih (by omega))
theorem sweepTo_nonneg {nbs : Nat → List Int} {est : List Int} (h : ∀ j, 0 ≤ est.getD j 0) (k : Nat) (hk : k ≤ est.length) (j : Nat) : 0 ≤ (sweepTo nbs est k).1.getD j 0 := by
  induction k generalizing j with
  | zero => exact h j
  | succ k ih =>
    rw [sweepTo_succ]
    exact step_nonneg (by rw [sweepTo_len]; omega) (fun j => ih (by omega) j) j
/-- Neighbours: among n vertices, each another one's. -/
structure Nbs (n : Nat) (nbs : Nat → List Int) : Prop where
  rng : ∀ v, v < n → ∀ u ∈ nbs v, 0 ≤ u ∧ u < n
  irr : ∀ v, v < n → (v : Int) ∉ nbs v
  symm : ∀ u v : Nat, u < n → v < n → (u : Int) ∈ nbs v → (v : Int) ∈ nbs u
  nodup : ∀ v, v < n → (nbs v).Nodup
/-- As many neighbours of v have its number or more as its number says. -/
def Stable (nbs : Nat → List Int) (est : List Int) (v : Nat) : Prop := est.getD v 0 ≤ over (vals (nbs v) est) (est.getD v 0)
theorem vals_set_other {n : Nat} {nbs : Nat → List Int} (hN : Nbs n nbs) {est : List Int} {v : Nat} (hv : v < n) (x : Int) : vals (nbs v) (est.set v x) = vals (nbs v) est := by
  refine List.map_congr_left (fun u hu => ?_)
  rw [getD_set, if_neg]
  rintro ⟨e, _⟩
  have := hN.rng v hv u hu
  have : u = (v : Int) := by omega
  subst this
  exact hN.irr v hv hu
theorem over_vals_mono {nb : List Int} {a b : List Int} (h : ∀ u ∈ nb, a.getD u.toNat 0 ≤ b.getD u.toNat 0) (k : Int) : over (vals nb a) k ≤ over (vals nb b) k := by
  induction nb with
  | nil => exact Int.le_refl _
  | cons u nb ih =>
    have h1 := h u (by simp)
    have h2 := ih (fun x hx => h x (by simp [hx]))
    unfold vals at *
    rw [List.map_cons, List.map_cons, over_cons, over_cons]
    split <;> split <;> omega
theorem over_vals_same {nb : List Int} {a b : List Int} {k : Int} (h : ∀ u ∈ nb, (a.getD u.toNat 0 ≥ k ↔ b.getD u.toNat 0 ≥ k)) : over (vals nb a) k = over (vals nb b) k := by
  induction nb with
  | nil => rfl
  | cons u nb ih =>
    have h1 := h u (by simp)
    have h2 := ih (fun x hx => h x (by simp [hx]))
    unfold vals at *
    rw [List.map_cons, List.map_cons, over_cons, over_cons, h2]
    by_cases q : a.getD u.toNat 0 ≥ k
    · rw [if_pos q, if_pos (h1.1 q)]
    · rw [if_neg q, if_neg (fun e => q (h1.2 e))]
/-- Behind each step: all that were looked at are stable, or a number has fallen past one ahead. -/
theorem step_stable {n : Nat} {nbs : Nat → List Int} (hN : Nbs n nbs) {s : St} {v : Nat} (hv : v < n) (hl : s.1.length = n) (h0 : ∀ j, 0 ≤ s.1.getD j 0) (h : s.2.2 = false → ∀ u, u < v → Stable nbs s.1 u) :
    (swStep nbs s v).2.2 = false → ∀ u, u < v + 1 → Stable nbs (swStep nbs s v).1 u := by
  have hH := hOf_is (vals (nbs v) s.1) (s.1.getD v 0)
  have hle := hOf_le (l := vals (nbs v) s.1) (h0 v)
  unfold swStep
  split
  · rename_i hge
    intro hp u hu
    by_cases e : u = v
    · subst e
      have e2 : hOf (vals (nbs u) s.1) (s.1.getD u 0) = s.1.getD u 0 := by omega
      exact (hOf_eq_iff (h0 u)).1 e2
    · exact h hp u (by omega)
  · rename_i hlt
    intro hp u hu
    simp only [Bool.or_eq_false_iff] at hp
    obtain ⟨hp1, hp2⟩ := hp
    generalize hh : hOf (vals (nbs v) s.1) (s.1.getD v 0) = x at *
    by_cases e : u = v
    · subst e
      unfold Stable
      rw [vals_set_other hN hv, getD_set, if_pos ⟨rfl, by omega⟩]
      exact hH.holds
    · have hu' : u < v := by omega
      have hs := h hp1 u hu'
      unfold Stable at *
      have e1 : (s.1.set v x).getD u 0 = s.1.getD u 0 := by rw [getD_set, if_neg (fun k => e k.1.symm)]
      rw [e1]
      refine Int.le_trans hs (Int.le_of_eq (over_vals_same (fun w hw => ?_)))
      rw [getD_set]
      by_cases q : v = w.toNat ∧ v < s.1.length
      · rw [if_pos q]
        obtain ⟨q1, _⟩ := q
        have hw' := hN.rng u (by omega) w hw
        have ew : w = (v : Int) := by omega
        subst ew
        have hm := hN.symm v u hv (by omega) hw
        have := List.any_eq_false.1 hp2 (u : Int) hm
        simp only [Int.toNat_natCast, e1, Bool.and_eq_true, decide_eq_true_eq] at this
        rw [Int.toNat_natCast]
        have a1 : (u : Int) < (v : Int) := by omega
        omega
      · rw [if_neg q]
theorem sweepTo_stable {n : Nat} {nbs : Nat → List Int} (hN : Nbs n nbs) {est : List Int} (hl : est.length = n) (h0 : ∀ j, 0 ≤ est.getD j 0) : ∀ k, k ≤ n → (sweepTo nbs est k).2.2 = false → ∀ u, u < k → Stable nbs (sweepTo nbs est k).1 u
  | 0, _, _, u, hu => absurd hu (Nat.not_lt_zero u)
  | k + 1, hk, hp, u, hu => by
    rw [sweepTo_succ] at hp ⊢
    exact step_stable hN (by omega) (by rw [sweepTo_len, hl]) (fun j => sweepTo_nonneg h0 k (by omega) j) (sweepTo_stable hN hl h0 k (by omega)) hp u hu
/-- What holds of itself is not gone below. -/
def Holds (n : Nat) (nbs : Nat → List Int) (q : List Int) : Prop := ∀ v, v < n → q.getD v 0 ≤ over (vals (nbs v) q) (q.getD v 0)
theorem step_above {n : Nat} {nbs : Nat → List Int} (hN : Nbs n nbs) {q : List Int} (hq : Holds n nbs q) {s : St} {v : Nat} (hv : v < n) (hl : s.1.length = n) (h : ∀ j, j < n → q.getD j 0 ≤ s.1.getD j 0) : ∀ j, j < n → q.getD j 0 ≤ (swStep nbs s v).1.getD j 0 := fun j hj => by
  rw [step_getD nbs s v j (by omega)]
  split
  · rename_i e
    subst e
    have h1 := h v hv
    refine Int.le_min.2 ⟨h1, ?_⟩
    rcases Int.lt_or_le 0 (q.getD v 0) with k | k
    · refine (hOf_is _ _).best _ k h1 (Int.le_trans (hq v hv) (over_vals_mono (fun u hu => ?_) _))
      have := hN.rng v hv u hu
      exact h u.toNat (by omega)
    · have := hOf_nonneg (vals (nbs v) s.1) (s.1.getD v 0)
      omega
  · exact h j hj
theorem sweepTo_above {n : Nat} {nbs : Nat → List Int} (hN : Nbs n nbs) {q est : List Int} (hq : Holds n nbs q) (hl : est.length = n) (h : ∀ j, j < n → q.getD j 0 ≤ est.getD j 0) : ∀ k, k ≤ n → ∀ j, j < n → q.getD j 0 ≤ (sweepTo nbs est k).1.getD j 0
  | 0, _ => h
  | k + 1, hk => by
    rw [sweepTo_succ]
    exact step_above hN hq (by omega) (by rw [sweepTo_len, hl]) (sweepTo_above hN hq hl h k (by omega))
def sum (l : List Int) : Int := l.foldr (· + ·) 0
theorem sum_set : ∀ (l : List Int) (v : Nat) (x : Int), v < l.length → sum (l.set v x) = sum l - l.getD v 0 + x
  | [], _, _, h => absurd h (by simp)
  | a :: l, 0, x, _ => by simp [sum]; omega
  | a :: l, v + 1, x, h => by
    have := sum_set l v x (by simpa using h)
    simp only [sum, List.set_cons_succ, List.foldr_cons, List.getD_cons_succ] at *
    omega
theorem step_falls (nbs : Nat → List Int) (s : St) (v : Nat) (hv : v < s.1.length) : s.2.1 ≤ (swStep nbs s v).2.1 ∧ (swStep nbs s v).2.1 ≤ s.2.1 + 1 ∧ (swStep nbs s v).2.1 - s.2.1 ≤ sum s.1 - sum (swStep nbs s v).1 ∧ (s.2.2 = false → (swStep nbs s v).2.2 = true → s.2.1 < (swStep nbs s v).2.1) ∧ ((swStep nbs s v).2.1 = s.2.1 → swStep nbs s v = s) := by
  unfold swStep
  split
  · refine ⟨Int.le_refl _, by omega, by omega, fun h k => ?_, fun _ => rfl⟩
    rw [h] at k; cases k
  · rename_i h
    refine ⟨by simp only; omega, Int.le_refl _, ?_, fun _ _ => by simp only; omega, fun e => by simp only at e; omega⟩
    simp only
    rw [sum_set _ _ _ hv]
    omega
theorem sweepTo_falls (nbs : Nat → List Int) (est : List Int) (k : Nat) (hk : k ≤ est.length) : 0 ≤ (sweepTo nbs est k).2.1 ∧ (sweepTo nbs est k).2.1 ≤ k ∧ (sweepTo nbs est k).2.1 ≤ sum est - sum (sweepTo nbs est k).1 ∧ ((sweepTo nbs est k).2.2 = true → 0 < (sweepTo nbs est k).2.1) ∧ ((sweepTo nbs est k).2.1 = 0 → sweepTo nbs est k = (est, 0, false)) := by
  induction k with
  | zero => exact ⟨Int.le_refl _, Int.le_refl _, by show (0 : Int) ≤ _ - _; simp [sweepTo], fun h => (by cases h), fun _ => rfl⟩
  | succ k ih =>
    obtain ⟨h1, h2, h3, h4, h6⟩ := ih (by omega)
    obtain ⟨g1, g2, g3, g4, g6⟩ := step_falls nbs (sweepTo nbs est k) k (by rw [sweepTo_len]; omega)
    rw [← sweepTo_succ] at g1 g2 g3 g4 g6
    refine ⟨by omega, by omega, by omega, fun h => ?_, fun h => ?_⟩
    · cases hb : (sweepTo nbs est k).2.2 with
      | false => have := g4 hb h; omega
      | true => have := h4 hb; omega
    · rw [g6 (by omega), h6 (by omega)]
inductive Runs (nbs : Nat → List Int) (n : Nat) : List Int → List Int → List Int → Prop
  | stop {est r : List Int} {k : Int} : sweepTo nbs est n = (r, k, false) → Runs nbs n est r [k]
  | more {est e r : List Int} {k : Int} {fs : List Int} : sweepTo nbs est n = (e, k, true) → Runs nbs n e r fs → Runs nbs n est r (k :: fs)
theorem Runs.uniq {nbs : Nat → List Int} {n : Nat} {est r fs r' fs' : List Int} (h : Runs nbs n est r fs) (k : Runs nbs n est r' fs') : r = r' ∧ fs = fs' := by
  induction h generalizing r' fs' with
  | stop h =>
    cases k with
    | stop k => rw [h] at k; injection k with k1 k2; injection k2 with k2 k3; exact ⟨k1, by rw [k2]⟩
    | more k _ => rw [h] at k; injection k with k1 k2; injection k2 with k2 k3; cases k3
  | more h _ ih =>
    cases k with
    | stop k => rw [h] at k; injection k with k1 k2; injection k2 with k2 k3; cases k3
    | more k k' =>
      rw [h] at k; injection k with k1 k2; injection k2 with k2 k3
      subst k1
      obtain ⟨e1, e2⟩ := ih k'
      exact ⟨e1, by rw [k2, e2]⟩
structure Left (nbs : Nat → List Int) (n : Nat) (est r fs : List Int) : Prop where
  len : r.length = n
  nonneg : ∀ j, 0 ≤ r.getD j 0
  le : ∀ j, r.getD j 0 ≤ est.getD j 0
  stable : ∀ v, v < n → Stable nbs r v
  above : ∀ q, Holds n nbs q → (∀ j, j < n → q.getD j 0 ≤ est.getD j 0) → ∀ j, j < n → q.getD j 0 ≤ r.getD j 0
  some : fs ≠ []
  falls : ∀ i, i < fs.length → 0 ≤ fs.getD i 0 ∧ fs.getD i 0 ≤ n ∧ (fs.getD i 0 = 0 → i + 1 = fs.length)
  all : sum fs ≤ sum est - sum r
  many : (fs.length : Int) ≤ sum est - sum r + 1
theorem Runs.left {nbs : Nat → List Int} {n : Nat} (hN : Nbs n nbs) {est r fs : List Int} (h : Runs nbs n est r fs) (hl : est.length = n) (h0 : ∀ j, 0 ≤ est.getD j 0) : Left nbs n est r fs := by
  induction h with
  | @stop est r k h =>
    have f := sweepTo_falls nbs est n (by omega)
    have a1 := sweepTo_len nbs est n
    have a2 := fun j => sweepTo_nonneg h0 (nbs := nbs) n (by omega) j
    have a3 := sweepTo_le nbs est n (by omega)
    have a4 := sweepTo_stable hN hl h0 n (Nat.le_refl _)
    have a5 := fun q (hq : Holds n nbs q) hh => sweepTo_above hN hq hl hh n (Nat.le_refl _)
    rw [h] at f a1 a2 a3 a4 a5
    obtain ⟨f1, f2, f3, _, _⟩ := f
    simp only at f1 f2 f3
    refine ⟨a1.trans hl, a2, a3, a4 rfl, a5, by simp, fun i hi => ?_, by simp [sum]; exact f3, by simp; omega⟩
    obtain rfl : i = 0 := by simpa using hi
    exact ⟨f1, f2, fun _ => rfl⟩
  | @more est e r k fs h _ ih =>
    have f := sweepTo_falls nbs est n (by omega)
    have a1 := sweepTo_len nbs est n
    have a2 := fun j => sweepTo_nonneg h0 (nbs := nbs) n (by omega) j
    have a3 := sweepTo_le nbs est n (by omega)
    have a5 := fun q (hq : Holds n nbs q) hh => sweepTo_above hN hq hl hh n (Nat.le_refl _)
    rw [h] at f a1 a2 a3 a5
    obtain ⟨f1, f2, f3, f4, _⟩ := f
    simp only at f1 f2 f3 f4 a1 a2 a3 a5
    have f5 := f4 trivial
    have L := ih (a1.trans hl) a2
    refine ⟨L.len, L.nonneg, fun j => Int.le_trans (L.le j) (a3 j), L.stable, fun q hq hh => L.above q hq (a5 q hq hh), by simp, fun i hi => ?_, ?_, ?_⟩
    · cases i with
      | zero => exact ⟨f1, f2, fun e => by simp at e; omega⟩
      | succ i =>
        have := L.falls i (by simpa using hi)
        refine ⟨this.1, this.2.1, fun e => ?_⟩
        have := this.2.2 e
        simp
        omega
    · have := L.all
      simp only [sum, List.foldr_cons] at *
      omega
    · have := L.many
      simp only [List.length_cons, Int.natCast_add, Int.natCast_one]
      omega
end Go.Proofs.YthbojpaghbbnnaaDoor.Hx
namespace Go.Proofs.YthbojpaghbbnnaaDoor.Hx
set_option linter.unusedVariables false
set_option linter.unusedSimpArgs false
end Go.Proofs.YthbojpaghbbnnaaDoor.Hx
namespace Go.Proofs.YthbojpaghbbnnaaDoor.Hx
set_option linter.unusedVariables false
set_option linter.unusedSimpArgs false
/-- Who has not gone. -/
def here (gone : List Bool) : Nat → Bool := fun x => !gone.getD x false
variable {n : Nat} {nbs : Nat → List Int} {m : Int} {left ats : List Int} {gone : List Bool} {T : Nat → List Int} {k i : Int} {pend : List Int}
end Go.Proofs.YthbojpaghbbnnaaDoor.Hx
namespace Go.Proofs.YthbojpaghbbnnaaDoor
open Go.RowKit
set_option linter.unusedVariables false
set_option linter.unusedSimpArgs false
/-- A number brought between 0 and m. -/
def clampN (m : Nat) (x : Int) : Nat := (max 0 (min x (m : Int))).toNat
theorem clampN_le (m : Nat) (x : Int) : clampN m x ≤ m := by unfold clampN; omega
def bins (m : Nat) (xs : List Int) : List Int := (List.range (m + 1)).map (fun k => ((xs.countP (fun x => decide (clampN m x = k)) : Nat) : Int))
theorem bins_len (m : Nat) (xs : List Int) : (bins m xs).length = m + 1 := by simp [bins]
theorem bins_get (m : Nat) (xs : List Int) (k : Nat) (hk : k ≤ m) : (bins m xs)[k]? = some ((xs.countP (fun x => decide (clampN m x = k)) : Nat) : Int) := by
  rw [bins, List.getElem?_map, List.getElem?_range (by omega)]
  rfl
theorem bins_snoc (m : Nat) (xs : List Int) (x : Int) : bins m (xs ++ [x]) = (bins m xs).set (clampN m x) (((xs.countP (fun y => decide (clampN m y = clampN m x)) : Nat) : Int) + 1) := by
  refine List.ext_getElem? (fun k => ?_)
  rw [List.getElem?_set]
  by_cases hk : k ≤ m
  · rw [bins_get m _ k hk, List.countP_append]
    by_cases e : clampN m x = k
    · subst e
      rw [if_pos rfl, if_pos (by rw [bins_len]; omega)]
      simp
    · rw [if_neg e, bins_get m _ k hk]
      simp [e]
  · rw [List.getElem?_eq_none (by rw [bins_len]; omega)]
    split
    · rename_i e
      have := clampN_le m x
      omega
    · rw [List.getElem?_eq_none (by rw [bins_len]; omega)]
theorem bins_nil (m : Nat) : bins m [] = List.replicate (m + 1) 0 := by
  refine List.ext_getElem? (fun k => ?_)
  by_cases hk : k ≤ m
  · rw [bins_get m _ k hk, List.getElem?_replicate, if_pos (by omega)]
    rfl
  · rw [List.getElem?_eq_none (by rw [bins_len]; omega), List.getElem?_eq_none (by simp; omega)]
theorem bins_at (m : Nat) (xs : List Int) (k : Nat) (hk : k ≤ m) : ∃ n : Nat, (bins m xs)[k]? = some (n : Int) ∧ n ≤ xs.length := ⟨_, bins_get m xs k hk, List.countP_le_length⟩
end Go.Proofs.YthbojpaghbbnnaaDoor
namespace Go.Proofs.YthbojpaghbbnnaaDoor.Z
open Go Go.RowKit
set_option linter.unusedVariables false
set_option linter.unusedSimpArgs false
theorem results_run1 {fn : Func} {a : Tmp} {tid : TypeId} {res : List Tmp} (h : fn.results = (ResultVar.cell a tid :: res.map ResultVar.tmp).toArray) (tmps : Array Value) (P : Program) (w : World) {v : Value}
    (hl : (do loadVar tid (← asAddr (tmps.getD a undef)) : Sem Value).run P w = .ok v w) : (results fn tmps).run P w = .ok (oneV (v :: res.map fun t => tmps.getD t undef)) w := by
  unfold results
  rw [h, Array.mapM_eq_mapM_toList]
  have := mapM_run (P := P) (f := fun r : ResultVar => (match r with
    | .tmp t => pure (tmps.getD t undef)
    | .cell a t => do loadVar t (← asAddr (tmps.getD a undef)) : Sem Value)) (g := fun r => match r with
    | .tmp t => tmps.getD t undef
    | .cell _ _ => v) (ResultVar.cell a tid :: res.map ResultVar.tmp) w (fun x hx => by
      rcases List.mem_cons.1 hx with rfl | hx
      · exact hl
      · obtain ⟨t, _, rfl⟩ := List.mem_map.1 hx
        rfl)
  simp only [map_eq_pure_bind, Sem.run_bind]
  erw [this]
  simp only [Result.andThen_ok, Sem.run_pure, List.map_map, List.map_cons]
  congr 1
  generalize hl : List.map ((fun r : ResultVar => match r with
    | .tmp t => tmps.getD t undef
    | .cell _ _ => v) ∘ ResultVar.tmp) res = l
  have hl2 : List.map (fun t => tmps.getD t undef) res = l := by rw [← hl]; rfl
  rw [hl2]
  cases l with
  | nil => rfl
  | cons x l => simp [oneV]
/-- Of a loop the first summary whose shape fits. -/
def lpL {R : Type} : List Lp → St → (Ex → St → Option R) → Option R
  | [], _, _ => none
  | L :: l, st, K => match pS L.s st with
    | some _ => lpK L st K
    | none => lpL l st K
/-- An environment in which a loop may have several summaries. -/
noncomputable def mkEnvV (tab : Tab) (sg : List (FuncId × Sig)) (own : Nat) (fx : List Bool) (ord : List (Nat × List Nat)) (ot : List (Nat × Ords)) (ls : List Lp) (rgs : List Nat) : Env :=
  { mkEnvK tab sg own fx ord ot ls with rg := fun i => rgs.contains i, lp := fun i st {_} K => lpL (ls.filter (fun L => L.id == i)) st K }
theorem loopOk_lpV {tab : Tab} {sg : List (FuncId × Sig)} {own : Nat} {fx : List Bool} {ord : List (Nat × List Nat)} {ot : List (Nat × Ords)} {ls lsi : List Lp} {rgs : List Nat} {x : Code} (hls : ls.filter (fun L => L.id == firstRegion x) = lsi)
    (h : ∀ L ∈ lsi, L.xs ≠ [] ∧ ∃ rd : Rd (VO L.s) (Xs L.xs), RoundIs (mkEnvV tab sg own fx ord ot ls rgs) x L rd ∧ Ends L rd) : LoopOk (mkEnvV tab sg own fx ord ot ls rgs) x := by
  intro st
  have e : ∀ (R : Type) (K : Ex → St → Option R), (mkEnvV tab sg own fx ord ot ls rgs).lp (firstRegion x) st K = lpL lsi st K := fun R K => by
    show lpL (ls.filter (fun L => L.id == firstRegion x)) st K = _
    rw [hls]
  have key : ∀ l : List Lp, (∀ L ∈ l, L.xs ≠ [] ∧ ∃ rd : Rd (VO L.s) (Xs L.xs), RoundIs (mkEnvV tab sg own fx ord ot ls rgs) x L rd ∧ Ends L rd) → (∀ (R : Type) (K : Ex → St → Option R), lpL l st K = none) ∨ ∃ m, ∀ (R : Type) (K : Ex → St → Option R), loopN (exec (mkEnvV tab sg own fx ord ot ls rgs) x) (canon (mkEnvV tab sg own fx ord ot ls rgs).own ((mkEnvV tab sg own fx ord ot ls rgs).head (firstRegion x))) (fun e => canon (mkEnvV tab sg own fx ord ot ls rgs).own ((mkEnvV tab sg own fx ord ot ls rgs).tail (firstRegion x) e)) m st K = lpL l st K := by
    intro l
    induction l with
    | nil => exact fun _ => .inl (fun R K => rfl)
    | cons L l ih =>
      intro hl
      obtain ⟨hx, rd, h1, hf⟩ := hl L List.mem_cons_self
      cases hp : pS L.s st with
      | none =>
        rcases ih (fun L hL => hl L (List.mem_cons_of_mem _ hL)) with q | ⟨m, q⟩
        · exact .inl (fun R K => by simp only [lpL, hp]; exact q R K)
        · exact .inr ⟨m, fun R K => by simp only [lpL, hp]; exact q R K⟩
      | some d =>
        have hst := pS_ok hp
        cases hfv : L.fin d with
        | none => exact .inl (fun R K => by simp only [lpL, hp, lpK, hfv])
        | some z =>
          obtain ⟨m, hm⟩ := hf d z hfv
          refine .inr ⟨m, fun R K => ?_⟩
          simp only [lpL, hp, lpK, hfv]
          rw [hst, it_ok (rd := rd) (bS L.s) (fun z => (exE L.xs z, exS L.xs z)) (fun R v k kx => (h1 R v k kx).trans (by
            show rd v _ _ = rd v _ _
            congr 1
            funext z
            exact exK_eq kx L.xs z hx)), hm]
          exact (exK_eq K L.xs z hx).symm
  rcases key lsi h with q | ⟨m, q⟩
  · exact .inl (fun R K => (e R K).trans (q R K))
  · exact .inr ⟨m, fun R K => (q R K).trans (e R K).symm⟩
theorem envOk_ofV {P : Program} {ρ : Obs} {tab : Tab} {sg : List (FuncId × Sig)} {own : Nat} {fx : List Bool} {ord : List (Nat × List Nat)} {ot : List (Nat × Ords)} {ls : List Lp} {rgs : List Nat} (h : TabOk P tab) (k : ∀ p ∈ sg, Enters P p.1 ∧ Sound P ρ p.1 p.2) : EnvOk P ρ (mkEnvV tab sg own fx ord ot ls rgs) :=
  ⟨(envOk_ofK (own := own) (fx := fx) (ord := ord) (ot := ot) (ls := ls) h k).tab, (envOk_ofK (own := own) (fx := fx) (ord := ord) (ot := ot) (ls := ls) h k).sg⟩
def regOps : Code → Array Oper
  | .region _ o _ => o
  | _ => #[]
/-- A state with some of its temporaries set. -/
def nd (l : List (Nat × A)) (tm : List A) (ob : List Ob) : St := ⟨l.foldl (fun tm p => setn p.2 tm p.1) tm, ob⟩
theorem edge_of {E : Env} {o : Array Oper} {i : Nat} {st st1 : St} (h : Head) (hs : (o[i]?).isSome = true) (he : ∀ (R : Type) (k : St → Option R), (match o[i]? with
    | some oi => opG E o.toList oi st (fun st' => canon E.own h st' k)
    | none => none) = k st1) : EdgeOk E o i st st1 := by
  obtain ⟨oi, hoi⟩ := Option.isSome_iff_exists.1 hs
  refine ⟨h, oi, hoi, fun R k => ?_⟩
  have := he R k
  rw [hoi] at this
  exact this
theorem Dag.step1 {E : Env} {o : Array Oper} {fin st : St} {l l' : Array Bool} (i : Nat) (st1 : St) (hl : l.setIfInBounds i true = l') (hc : (match o[i]? with | some oi => isPure oi.op && oi.guard.isNone && Region.free .any o l i && (Region.ready .any o l).contains i | none => false) = true)
    (he : EdgeOk E o i st st1) (hd : Dag E o fin l' st1) : Dag E o fin l st := .pure i st1 hc he (hl ▸ hd)
theorem Dag.fork {E : Env} {o : Array Oper} {fin st : St} {l : Array Bool} (L : List (Nat × Array Bool × St)) (hr : Region.ready .any o l = L.map (·.1)) (hne : L ≠ [])
    (hL : ∀ p ∈ L, l.setIfInBounds p.1 true = p.2.1 ∧ EdgeOk E o p.1 st p.2.2 ∧ Dag E o fin p.2.1 p.2.2) : Dag E o fin l st := by
  have key : ∀ i ∈ Region.ready .any o l, ∃ p ∈ L, L.find? (fun p => p.1 == i) = some p ∧ p.1 = i := by
    intro i hi
    rw [hr] at hi
    obtain ⟨p, hp, hpi⟩ := List.mem_map.1 hi
    cases hf : L.find? (fun p => p.1 == i) with
    | none =>
      have := List.find?_eq_none.1 hf p hp
      exact absurd hpi (by simpa using this)
    | some q => exact ⟨q, List.mem_of_find?_eq_some hf, rfl, by simpa using List.find?_some hf⟩
  refine .all (fun i => match L.find? (fun p => p.1 == i) with
    | some p => p.2.2
    | none => st) ?_ (fun i hi => ?_) (fun i hi => ?_)
  · rw [hr]
    intro q
    exact hne (List.map_eq_nil_iff.1 q)
  · obtain ⟨p, hp, hf, rfl⟩ := key i hi
    rw [hf]
    exact (hL p hp).2.1
  · obtain ⟨p, hp, hf, rfl⟩ := key i hi
    rw [hf, (hL p hp).1]
    exact (hL p hp).2.2
def isRegion : Code → Bool
  | .region _ _ _ => true
  | _ => false
theorem regOk_lpV {tab : Tab} {sg : List (FuncId × Sig)} {own : Nat} {fx : List Bool} {ord : List (Nat × List Nat)} {ot : List (Nat × Ords)} {ls lsi : List Lp} {rgs : List Nat} {x : Code} (hx : isRegion x = true) (hls : ls.filter (fun L => L.id == 1000000 + firstRegion x) = lsi)
    (h : ∀ L ∈ lsi, L.xs ≠ [] ∧ ∀ v z, L.fin v = some z → ∃ l0 st0 fin, exE L.xs z = .nm ∧ exS L.xs z = fin ∧ Array.replicate (regOps x).size false = l0 ∧ bS L.s v = st0 ∧ Dag (mkEnvV tab sg own fx ord ot ls rgs) (regOps x) fin l0 st0) : RegOkC (mkEnvV tab sg own fx ord ot ls rgs) x := by
  cases x with
  | region id o dr =>
    refine .inr (fun R st K r hr => ?_)
    have e : (mkEnvV tab sg own fx ord ot ls rgs).lp (1000000 + id) st K = lpL lsi st K := by
      show lpL (ls.filter (fun L => L.id == 1000000 + id)) st K = _
      rw [← hls]
      rfl
    rw [e] at hr
    have key : ∀ l : List Lp, (∀ L ∈ l, L.xs ≠ [] ∧ ∀ v z, L.fin v = some z → ∃ l0 st0 fin, exE L.xs z = .nm ∧ exS L.xs z = fin ∧ Array.replicate o.size false = l0 ∧ bS L.s v = st0 ∧ Dag (mkEnvV tab sg own fx ord ot ls rgs) o fin l0 st0) → lpL l st K = some r → ∃ fin, K .nm fin = some r ∧ Dag (mkEnvV tab sg own fx ord ot ls rgs) o fin (Array.replicate o.size false) st := by
      intro l
      induction l with
      | nil => intro _ h; cases h
      | cons L l ih =>
        intro hl hr
        obtain ⟨hx, h1⟩ := hl L List.mem_cons_self
        cases hp : pS L.s st with
        | none =>
          simp only [lpL, hp] at hr
          exact ih (fun L hL => hl L (List.mem_cons_of_mem _ hL)) hr
        | some d =>
          simp only [lpL, hp, lpK] at hr
          cases hfv : L.fin d with
          | none => rw [hfv] at hr; cases hr
          | some z =>
            rw [hfv] at hr
            simp only at hr
            rw [exK_eq K L.xs z hx] at hr
            obtain ⟨l0, st0, fin, g1, rfl, rfl, rfl, g2⟩ := h1 d z hfv
            rw [g1] at hr
            refine ⟨exS L.xs z, hr, ?_⟩
            rw [pS_ok hp]
            exact g2
    exact key lsi h hr
  | _ => cases hx
/-- As fin, of a function whose first result is a struct's variable: it is loaded at the end. -/
noncomputable def fin1 (E : Env) (a : Tmp) (tid : TypeId) (res : List Tmp) (ps rs : List PM) (st : St) : Option (Ds (muts ps ++ rs.map PM.ty)) := match softE E st tid (ev st (.tmp a)) with
  | none => loadZ E.tab st tid (ev st (.tmp a)) (fun x => fin E.own (a :: res) ps rs (St.put st (some a) x))
  | some st' => loadZ E.tab st' tid (ev st' (.tmp a)) (fun x => fin E.own (a :: res) ps rs (St.put st' (some a) x))
noncomputable def runF1 (E : Env) (ntmps : Nat) (body : Code) (a : Tmp) (tid : TypeId) (res : List Tmp) (ps rs : List PM) (d : Ds (ps.map PM.ty)) : Option (Ds (muts ps ++ rs.map PM.ty)) :=
  exec E body (start ntmps ps d) (fun e st => match e with
    | .ex _ => none
    | .nm => none
    | .rt => fin1 E a tid res ps rs st)
section
variable {P : Program} {ρ : Obs} {E : Env}
theorem at_of_sure {tid : TypeId} {x v : Value} {w w' : World} (h : (Instr.loadAt tid x).run P w = .ok v w') : (do loadVar tid (← asAddr x) : Sem Value).run P w = .ok v w' := by
  unfold Instr.loadAt at h
  unfold Instr.sureAddr at h
  unfold asAddr
  split at h
  · exact h
  · exfalso
    simp only [Sem.run_bind] at h
    cases h
theorem no_addr {tid : TypeId} {v : Value} {w w' : World} (h : (do loadVar tid (← asAddr undef) : Sem Value).run P w = .ok v w') : False := by
  unfold asAddr undef at h
  simp only [Sem.run_bind] at h
  cases h
theorem sound_of1 (hE : EnvOk P ρ E) (hm : P.follows .mixedOrders = true) {f : FuncId} {s : Sig} {fn : Func} {c : Code} {a : Tmp} {tid : TypeId} {res : List Tmp}
    (hf : P.funcs[f]? = some fn) (hb : fn.body = some c) (hres : fn.results = (ResultVar.cell a tid :: res.map ResultVar.tmp).toArray) (hna : a ∉ res) (hc : chkCode E c = true) (hl : LoopsOk E c) (ho : E.own = nOwn s.ps) (hnt : s.ps.length ≤ fn.ntmps)
    (h : ∀ d, s.pre d = true → runF1 E fn.ntmps c a tid res s.ps s.rs d = some (s.fn d)) (hF : ∀ i, E.fx i = fxP s.ps i := by intro i; rfl) (hfresh : s.fresh = false := by rfl) : Sound P ρ f s := by
  intro d hpre w U0 U1 V hd0 vs hu hu1 hfr hap hK ha
  have hE : EnvOk P (ρ.on V) E := ⟨hE.tab, hE.sg⟩
  have hn := h d hpre
  have H := start_rel hu hap ha fn.ntmps hnt
  refine calls_of_wp hf hb (exec_sound hE ho hF hK hm c hc hl (Q := bodyPost P fn _) (fun c a d v w hp => ?_) H hn (fun e st' a' w' hd' hk H' => ?_))
  · obtain ⟨h1, h2⟩ := hp
    exact ⟨by cases d <;> exact h1, h2⟩
  · cases e with
    | ex i => cases hk
    | nm => cases hk
    | rt =>
      have hk := (show fin1 E a tid res s.ps s.rs st' = some (s.fn d) from hk)
      unfold fin1 at hk
      obtain ⟨st1, hd1, H1, hk⟩ := soft_split ho H' (x := .tmp a) (d := some a) (k := fun st => fin E.own (a :: res) s.ps s.rs st) hk
      obtain ⟨z, v, h1, h2, h3, h4⟩ := load_sound hE.tab H1 hk
      have H2 := H1.put h2 h3 (some a)
      rw [ho] at h1
      obtain ⟨hd2, r1, r2, r3, r4, r5⟩ := fin_ok hK.vlt H2 (args_nb s.ps d vs 0 ha) h1
      have k : Tr (Us U0 (nOwn s.ps + nOwn s.rs) hd2) w' (Us U1 (nOwn s.ps + nOwn s.rs) hd2) w' := Tr.of (V := fun _ => False) (Ag.refl _ _) (fun _ _ h => h.elim) (fun b _ hb => hb.imp (hfr hfresh b) id)
      have hld : (do loadVar tid (← asAddr (a'.tmps.getD a undef)) : Sem Value).run P w' = .ok v w' := by
        have h5 := h4 w' (Ag.refl _ _)
        have e : a'.eval (.tmp a) = a'.tmps.getD a undef := rfl
        rw [e] at h5
        exact at_of_sure h5
      have hrv : ((a :: res).map fun t => (a'.put (some a) v).tmps.getD t undef) = v :: res.map fun t => a'.tmps.getD t undef := by
        rw [List.map_cons]
        have hs : a < a'.tmps.size := by
          cases h6 : a'.tmps[a]? with
          | some x => exact (Array.getElem?_eq_some_iff.1 h6).1
          | none =>
            exfalso
            have h7 : a'.tmps.getD a undef = undef := by rw [Array.getD_eq_getD_getElem?, h6]; rfl
            rw [h7] at hld
            exact no_addr hld
        congr 1
        · simp [Act.put, Array.getD_eq_getD_getElem?, hs]
        · refine List.map_congr_left (fun t ht => ?_)
          have hne : a ≠ t := fun e => hna (e ▸ ht)
          simp only [Act.put, Array.getD_eq_getD_getElem?, Array.getElem?_setIfInBounds, if_neg hne]
      rw [hrv] at r5
      exact ⟨H'.df, _, results_run1 hres a'.tmps P w' (v := v) hld, _, hd2, rfl, H2.ag, r1, r2, r3, muts_tr k _ _ _ r4, rets_tr k _ _ _ _ r5⟩
theorem Sound.as {f : FuncId} {ps rs : List PM} {pre : Ds (ps.map PM.ty) → Bool} {fn1 fn2 : Ds (ps.map PM.ty) → Ds (muts ps ++ rs.map PM.ty)} {fr : Bool} (h : Sound P ρ f ⟨ps, rs, pre, fn1, fr⟩) (e : ∀ d, pre d = true → fn2 d = fn1 d) : Sound P ρ f ⟨ps, rs, pre, fn2, fr⟩ := by
  have e2 : ∀ d, pre d = true → fn1 d = fn2 d := fun d hd => (e d hd).symm
  intro d hp
  have := h d hp
  simp only [e2 d hp] at this
  exact this
end
end Go.Proofs.YthbojpaghbbnnaaDoor.Z
namespace Go.Proofs.YthbojpaghbbnnaaDoor.Esx
open Hx
set_option linter.unusedVariables false
set_option linter.unusedSimpArgs false
def lowC (cs : List Int) : Nat → Int
  | 0 => 0
  | s + 1 => cs.getD s 0
structure Cuts (n : Nat) (cs : List Int) : Prop where
  rise : ∀ i j, i < j → j < cs.length → cs.getD i 0 < cs.getD j 0
  pos : ∀ i, i < cs.length → 0 < cs.getD i 0
  last : lowC cs cs.length = n
def shN (cs : List Int) (v : Int) : Nat := cs.countP (fun x => decide (x ≤ v))
theorem Cuts.mono {n : Nat} {cs : List Int} (h : Cuts n cs) {i j : Nat} (hij : i ≤ j) (hj : j ≤ cs.length) : lowC cs i ≤ lowC cs j := by
  rcases Nat.lt_or_ge i j with e | e
  · cases j with
    | zero => omega
    | succ j =>
      cases i with
      | zero => exact Int.le_of_lt (h.pos j (by omega))
      | succ i => exact Int.le_of_lt (h.rise i j (by omega) (by omega))
  · obtain rfl : i = j := by omega
    exact Int.le_refl _
theorem Cuts.lt {n : Nat} {cs : List Int} (h : Cuts n cs) {s : Nat} (hs : s < cs.length) : lowC cs s < lowC cs (s + 1) := by
  cases s with
  | zero => exact h.pos 0 hs
  | succ s => exact h.rise s (s + 1) (by omega) hs
theorem Cuts.low0 {n : Nat} {cs : List Int} (h : Cuts n cs) {s : Nat} (hs : s ≤ cs.length) : 0 ≤ lowC cs s := h.mono (Nat.zero_le s) hs
theorem Cuts.lown {n : Nat} {cs : List Int} (h : Cuts n cs) {s : Nat} (hs : s ≤ cs.length) : lowC cs s ≤ n := by
  rw [← h.last]; exact h.mono hs (Nat.le_refl _)
theorem shN_eq {n : Nat} {cs : List Int} (h : Cuts n cs) {s : Nat} (hs : s < cs.length) {v : Int} (h1 : lowC cs s ≤ v) (h2 : v < lowC cs (s + 1)) : shN cs v = s := by
  unfold shN
  rw [← List.take_append_drop s cs, List.countP_append]
  have e1 : (cs.take s).countP (fun x => decide (x ≤ v)) = s := by
    rw [List.countP_eq_length.2]
    · rw [List.length_take]; omega
    · intro x hx
      obtain ⟨i, hi, e⟩ := List.getElem_of_mem hx
      rw [List.length_take] at hi
      rw [List.getElem_take] at e
      rw [decide_eq_true_eq]
      have : cs.getD i 0 ≤ lowC cs s := h.mono (i := i + 1) (by omega) (by omega)
      rw [List.getD_eq_getElem?_getD, List.getElem?_eq_getElem (by omega), Option.getD_some, e] at this
      omega
  have e2 : (cs.drop s).countP (fun x => decide (x ≤ v)) = 0 := by
    rw [List.countP_eq_zero]
    intro x hx
    obtain ⟨i, hi, e⟩ := List.getElem_of_mem hx
    rw [List.length_drop] at hi
    rw [List.getElem_drop] at e
    rw [decide_eq_true_eq]
    have : lowC cs (s + 1) ≤ cs.getD (s + i) 0 := h.mono (i := s + 1) (j := s + i + 1) (by omega) (by omega)
    rw [List.getD_eq_getElem?_getD, List.getElem?_eq_getElem (by omega), Option.getD_some, e] at this
    omega
  rw [e1, e2]; rfl
theorem sh_ex {n : Nat} {cs : List Int} (h : Cuts n cs) {v : Int} (h0 : 0 ≤ v) : ∀ k, k ≤ cs.length → v < lowC cs k → ∃ s, s < cs.length ∧ lowC cs s ≤ v ∧ v < lowC cs (s + 1)
  | 0, _, hv => by simp only [lowC] at hv; omega
  | k + 1, hk, hv => by
    rcases Int.lt_or_le v (lowC cs k) with e | e
    · exact sh_ex h h0 k (by omega) e
    · exact ⟨k, hk, e, hv⟩
theorem sh_at {n : Nat} {cs : List Int} (h : Cuts n cs) {v : Int} (h0 : 0 ≤ v) (hn : v < n) : shN cs v < cs.length ∧ lowC cs (shN cs v) ≤ v ∧ v < lowC cs (shN cs v + 1) := by
  obtain ⟨s, h1, h2, h3⟩ := sh_ex h h0 cs.length (Nat.le_refl _) (by rw [h.last]; exact hn)
  rw [shN_eq h h1 h2 h3]
  exact ⟨h1, h2, h3⟩
abbrev Rs := List Int × Int × (Nat → Bool)
def cross (cs : List Int) (v s : Nat) (bd : List Int) (h old : Int) (u : Int) : Bool := decide (bd.getD u.toNat 0 > h) && decide (bd.getD u.toNat 0 ≤ old) && (decide (u < (v : Int)) || decide (shN cs u ≠ s))
def markF (cs : List Int) (nb : List Int) (v s : Nat) (bd : List Int) (h old : Int) (D : Nat → Bool) : Nat → Bool := fun t => D t || nb.any (fun u => cross cs v s bd h old u && decide (shN cs u = t))
def rStep (nbs : Nat → List Int) (cs : List Int) (s : Nat) (st : Rs) (v : Nat) : Rs :=
  if hOf (vals (nbs v) st.1) (st.1.getD v 0) ≥ st.1.getD v 0 then st
  else (st.1.set v (hOf (vals (nbs v) st.1) (st.1.getD v 0)), st.2.1 + 1, markF cs (nbs v) v s (st.1.set v (hOf (vals (nbs v) st.1) (st.1.getD v 0))) (hOf (vals (nbs v) st.1) (st.1.getD v 0)) (st.1.getD v 0) st.2.2)
def readTo (nbs : Nat → List Int) (cs : List Int) (s lo k : Nat) (st : Rs) : Rs := (List.range' lo k).foldl (rStep nbs cs s) st
def clrF (D : Nat → Bool) (s : Nat) : Nat → Bool := fun t => D t && !decide (t = s)
/-- A shard is read. -/
def readS (nbs : Nat → List Int) (cs : List Int) (s : Nat) (st : Rs) : Rs := readTo nbs cs s (lowC cs s).toNat ((lowC cs (s + 1)).toNat - (lowC cs s).toNat) (st.1, st.2.1, clrF st.2.2 s)
def In (cs : List Int) (D : Nat → Bool) : Prop := ∀ t, cs.length ≤ t → D t = false
def LeastF (D : Nat → Bool) (p s : Nat) : Prop := p ≤ s ∧ D s = true ∧ ∀ t, p ≤ t → t < s → D t = false
theorem LeastF.uniq {D : Nat → Bool} {p s t : Nat} (h : LeastF D p s) (k : LeastF D p t) : s = t := by
  rcases Nat.lt_trichotomy s t with e | e | e
  · have := k.2.2 s h.1 e; rw [h.2.1] at this; cases this
  · exact e
  · have := h.2.2 t k.1 e; rw [k.2.1] at this; cases this
/-- A pass from a place on: the shards that it reads, and what is behind it. -/
inductive Pass (nbs : Nat → List Int) (cs : List Int) : Nat → Rs → List Nat → Rs → Prop
  | stop {p : Nat} {st : Rs} : (∀ t, p ≤ t → st.2.2 t = false) → Pass nbs cs p st [] st
  | read {p s : Nat} {st st' : Rs} {l : List Nat} : LeastF st.2.2 p s → Pass nbs cs (s + 1) (readS nbs cs s st) l st' → Pass nbs cs p st (s :: l) st'
theorem Pass.uniq {nbs : Nat → List Int} {cs : List Int} {p : Nat} {st r r' : Rs} {l l' : List Nat} (h : Pass nbs cs p st l r) (k : Pass nbs cs p st l' r') : l = l' ∧ r = r' := by
  induction h generalizing l' r' with
  | stop h =>
    cases k with
    | stop _ => exact ⟨rfl, rfl⟩
    | read k _ => have := h _ k.1; rw [k.2.1] at this; cases this
  | read h _ ih =>
    cases k with
    | stop k => have := k _ h.1; rw [h.2.1] at this; cases this
    | read k k' =>
      obtain rfl := h.uniq k
      obtain ⟨e1, e2⟩ := ih k'
      exact ⟨by rw [e1], e2⟩
end Go.Proofs.YthbojpaghbbnnaaDoor.Esx
namespace Go.Proofs.YthbojpaghbbnnaaDoor.Esx
open Hx
set_option linter.unusedVariables false
set_option linter.unusedSimpArgs false
def rList (cs : List Int) (s : Nat) (st : Rs) (x : Int × List Int) : Rs := rStep (fun _ => x.2) cs s st x.1.toNat
def readL (cs : List Int) (s : Nat) (ls : List (Int × List Int)) (st : Rs) : Rs := ls.foldl (rList cs s) st
/-- What is left of a search: nothing is dirty and these are the numbers, or so many passes more. -/
inductive Rst17 (n : Nat) (nbs : Nat → List Int) : Bool → List Int → Nat → List Int → Prop
  | done {b : List Int} : (∀ v, v < n → Stable nbs b v) → Rst17 n nbs false b 0 b
  | pass {b r : List Int} {m : Nat} : Rst17 n nbs (sweepTo nbs b n).2.2 (sweepTo nbs b n).1 m r → Rst17 n nbs true b (m + 1) r
theorem Rst17.uniq {n : Nat} {nbs : Nat → List Int} {d : Bool} {b r r' : List Int} {m m' : Nat} (h : Rst17 n nbs d b m r) (k : Rst17 n nbs d b m' r') : m = m' ∧ r = r' := by
  induction h generalizing m' r' with
  | done _ => cases k with
    | done _ => exact ⟨rfl, rfl⟩
  | pass _ ih => cases k with
    | pass k =>
      obtain ⟨e1, e2⟩ := ih k
      exact ⟨by rw [e1], e2⟩
end Go.Proofs.YthbojpaghbbnnaaDoor.Esx
