/- A function of the program does what its plain function says, if the small machine says so. Plain lemmas; no condition. -/
import Derived.Test.YthbojpaghbbnnaaZL
namespace Go.Proofs.Ythbojpaghbbnnaa.Z
open Go Go.RowKit
set_option linter.unusedVariables false
set_option linter.unusedSimpArgs false
section
variable {P : Program} {ρ : Obs} {w : World} {hd : Nat → Value} {w0 : World} {U0 : Nat → Prop} {own : Nat} {fx : Nat → Bool} {hd0 : Nat → Value} {st : St} {a : Act} {E : Env}
theorem start_ok {U : Nat → Prop} : ∀ (ps : List PM) (d : Ds (ps.map PM.ty)) (vs : List Value) (n : Nat), ArgsOk ρ U w hd0 ps d vs n → All2 (RA ρ U w hd0) (startTm ps d n) vs ∧ (∀ x ∈ startTm ps d n, ∀ j ∈ x.refs, j < n + nOwn ps) ∧ (startOb ps d n).length = nOwn ps ∧
    (∀ q, q < nOwn ps → RO ρ U w hd0 0 (atn .gone (startOb ps d n) q) (hd0 (n + q)) ∧ ∀ j ∈ (atn .gone (startOb ps d n) q).refs, j < n + nOwn ps) ∧ vs.length = ps.length
  | [], d, [], n, _ => by
    refine ⟨trivial, fun x hx => ?_, rfl, fun q hq => ?_, rfl⟩
    · simp [startTm] at hx
    · simp [nOwn] at hq
  | [], d, _ :: _, n, h => h.elim
  | .val t :: ps, d, [], n, h => h.elim
  | .own e t :: ps, d, [], n, h => h.elim
  | .bx e fs :: ps, d, [], n, h => h.elim
  | .nbx e fs :: ps, d, [], n, h => h.elim
  | .nbx e fs :: ps, d, v :: vs, n, h => h.elim
  | .cutp e t :: ps, d, [], n, h => h.elim
  | .cutp e t :: ps, d, v :: vs, n, h => by
    obtain ⟨g1, g2, g3⟩ := h
    obtain ⟨h1, h2, h3, h4, h5⟩ := start_ok ps d.2 vs (n + 1) g3
    refine ⟨⟨g1, h1⟩, fun x hx => ?_, by simp [startOb, nOwn, h3], fun q hq => ?_, by simp [h5]⟩
    · rcases List.mem_cons.1 hx with rfl | hx
      · intro j hj
        simp only [A.refs, List.mem_singleton] at hj
        simp only [nOwn]
        omega
      · intro j hj
        have := h2 x hx j hj
        simp only [nOwn]
        omega
    · cases q with
      | zero => exact ⟨by rw [Nat.add_zero]; exact g2, fun j hj => by simp [startOb, atn, Ob.refs] at hj⟩
      | succ q =>
        have := h4 q (by simp [nOwn] at hq; omega)
        rw [show n + (q + 1) = n + 1 + q by omega]
        refine ⟨this.1, fun j hj => ?_⟩
        have := this.2 j hj
        simp only [nOwn]
        omega
  | .val t :: ps, d, v :: vs, n, h => by
    obtain ⟨h1, h2, h3, h4, h5⟩ := start_ok ps d.2 vs n h.2
    refine ⟨⟨h.1, h1⟩, fun x hx => ?_, h3, h4, by simp [h5]⟩
    rcases List.mem_cons.1 hx with rfl | hx
    · intro j hj; simp [A.refs] at hj
    · exact h2 x hx
  | .own e t :: ps, d, v :: vs, n, h => by
    obtain ⟨g1, g2, g3⟩ := h
    obtain ⟨h1, h2, h3, h4, h5⟩ := start_ok ps d.2 vs (n + 1) g3
    refine ⟨⟨g1, h1⟩, fun x hx => ?_, by simp [startOb, nOwn, h3], fun q hq => ?_, by simp [h5]⟩
    · rcases List.mem_cons.1 hx with rfl | hx
      · intro j hj
        simp only [A.refs, List.mem_singleton] at hj
        simp only [nOwn]
        omega
      · intro j hj
        have := h2 x hx j hj
        simp only [nOwn]
        omega
    · cases q with
      | zero => exact ⟨by rw [Nat.add_zero, ← g1]; exact g2, fun j hj => by simp [startOb, atn, Ob.refs] at hj⟩
      | succ q =>
        have := h4 q (by simp [nOwn] at hq; omega)
        rw [show n + (q + 1) = n + 1 + q by omega]
        refine ⟨this.1, fun j hj => ?_⟩
        have := this.2 j hj
        simp only [nOwn]
        omega
  | .bx e fs :: ps, d, v :: vs, n, h => by
    obtain ⟨g1, ⟨m1, m2⟩, g3⟩ := h
    obtain ⟨h1, h2, h3, h4, h5⟩ := start_ok ps d.2 vs (n + (1 + fsN fs)) g3
    have hfo : (fsO fs d.1).length = fsN fs := fsO_len fs d.1
    have hlen : (Ob.cells e (fsA fs d.1 (n + 1)) :: fsO fs d.1).length = 1 + fsN fs := by rw [List.length_cons, hfo]; omega
    refine ⟨⟨?_, h1⟩, fun x hx => ?_, by show ((Ob.cells e (fsA fs d.1 (n + 1)) :: fsO fs d.1) ++ startOb ps d.2 (n + (1 + fsN fs))).length = _; rw [List.length_append, hlen, h3]; simp only [nOwn]; omega, fun q hq => ?_, by simp [h5]⟩
    · obtain ⟨b, vs', e1, _⟩ := m1
      exact ⟨b, e1, by rw [g1]; exact e1⟩
    · rcases List.mem_cons.1 hx with rfl | hx
      · intro j hj
        simp only [A.refs, List.mem_singleton] at hj
        simp only [nOwn]
        omega
      · intro j hj
        have := h2 x hx j hj
        simp only [nOwn]
        omega
    · have hs : startOb (.bx e fs :: ps) d n = (Ob.cells e (fsA fs d.1 (n + 1)) :: fsO fs d.1) ++ startOb ps d.2 (n + (1 + fsN fs)) := rfl
      rw [hs, atn_append, hlen]
      rcases Nat.lt_or_ge q (1 + fsN fs) with hq1 | hq1
      · rw [if_pos hq1]
        cases q with
        | zero =>
          refine ⟨by rw [Nat.add_zero]; exact m1, fun j hj => ?_⟩
          have := fsA_refs fs d.1 (n + 1) j hj
          simp only [nOwn]
          omega
        | succ q =>
          rw [show atn Ob.gone (Ob.cells e (fsA fs d.1 (n + 1)) :: fsO fs d.1) (q + 1) = atn .gone (fsO fs d.1) q from rfl]
          have m3 : RO ρ U w hd0 0 (atn .gone (fsO fs d.1) q) (hd0 (n + 1 + q)) := m2 q (by omega)
          rw [show n + (q + 1) = n + 1 + q by omega]
          refine ⟨m3, fun j hj => ?_⟩
          obtain ⟨e2, t2, xs2, f1, _⟩ := fsO_row fs d.1 q (by omega)
          rw [f1] at hj
          simp [Ob.refs] at hj
      · rw [if_neg (by omega)]
        have := h4 (q - (1 + fsN fs)) (by simp only [nOwn] at hq; omega)
        rw [show n + (1 + fsN fs) + (q - (1 + fsN fs)) = n + q by omega] at this
        refine ⟨this.1, fun j hj => ?_⟩
        have := this.2 j hj
        simp only [nOwn]
        omega
theorem mem_atn {l : List A} {P : A → Prop} (h : ∀ x ∈ l, P x) (hu : P .un) : ∀ i, P (atn .un l i) := fun i => by
  rcases Nat.lt_or_ge i l.length with h1 | h1
  · exact h _ (atn_mem .un l i h1)
  · rw [atn_out _ _ _ h1]; exact hu
theorem atn_rep (n i : Nat) : atn A.un (List.replicate n A.und) i = if i < n then .und else .un := by
  rcases Nat.lt_or_ge i n with h | h
  · rw [if_pos h, atn_getElem _ _ _ (by simpa using h)]; simp
  · rw [if_neg (by omega), atn_out _ _ _ (by simpa using h)]
theorem start_rel {ps : List PM} {d : Ds (ps.map PM.ty)} {vs : List Value} (hu : ∀ b, U0 b → b < w.heap.size ∧ ∀ i, i < nOwn ps → blk (hd0 i) ≠ some b) (hap : Apart (nOwn ps) hd0) (ha : ArgsOk ρ (Us U0 (nOwn ps) hd0) w hd0 ps d vs 0) (nt : Nat) (hnt : ps.length ≤ nt) :
    Rel ρ w U0 (nOwn ps) (fxP ps) hd0 (start nt ps d) { tmps := vs.toArray ++ Array.replicate (nt - vs.toArray.size) undef, defers := [] } w hd0 := by
  obtain ⟨h1, h2, h3, h4, h5⟩ := start_ok ps d vs 0 ha
  obtain ⟨g1, g2⟩ := all2_atn h1
  have hl : (startTm ps d 0).length = ps.length := by omega
  refine ⟨by simp [start, hl, h5], rfl, fun i v hv => ?_, fun i hi => ?_, fun i j hi hj => ?_, fun _ _ _ => rfl, fun _ _ _ hb => .inl hb, by simp [start, h3], Ag.refl _ _, hu, fun i j hj => ?_, fun i j hj => ?_⟩
  · simp only [start, h3, atn_append]
    simp only [Array.getElem?_append, List.size_toArray] at hv
    by_cases hi : i < vs.length
    · rw [if_pos hi] at hv
      rw [if_pos (by omega)]
      obtain ⟨x, q1, q2⟩ := g2 i (by omega)
      have : v = x := by
        have hv' : vs[i]? = some v := by simpa using hv
        rw [hv'] at q1
        injection q1
      rw [this]
      exact q2
    · rw [if_neg hi] at hv
      rw [if_neg (by omega), atn_rep]
      split
      · show v = undef
        simp only [Array.getElem?_replicate] at hv
        split at hv
        · injection hv with hv; exact hv.symm
        · cases hv
      · trivial
  · simp only [start, h3] at hi ⊢
    rw [if_pos hi]
    have := (h4 i hi).1
    rwa [Nat.zero_add] at this
  · simp only [start, h3] at hi hj
    exact fun hij => hap i j hi hj hij
  · simp only [start, h3, atn_append] at hj ⊢
    split at hj
    · have := mem_atn (P := fun x => ∀ j ∈ x.refs, j < 0 + nOwn ps) h2 (by simp [A.refs]) i j hj
      omega
    · rw [atn_rep] at hj
      split at hj <;> simp [A.refs] at hj
  · simp only [start, h3] at hj ⊢
    rcases Nat.lt_or_ge i (nOwn ps) with h | h
    · have := (h4 i h).2 j hj
      omega
    · rw [atn_out _ _ _ (by rw [h3]; exact h)] at hj
      simp [Ob.refs] at hj
theorem dl_cat : ∀ {a b : List T} (x : Ds a) (y : Ds b), dl (cat x y) = x
  | [], _, x, _ => rfl
  | _ :: _, _, x, y => by simp only [cat, dl, dl_cat]; rfl
theorem dr_cat : ∀ {a b : List T} (x : Ds a) (y : Ds b), dr (cat x y) = y
  | [], _, _, _ => rfl
  | _ :: _, _, x, y => by simp only [cat, dr, dr_cat]
theorem okRows_ok : ∀ {fs : List Fd} {l : List A} {n : Nat}, okRows fs l n = true → okF fs l = true ∧ ∀ q, q < fsN fs → atn 0 (rIdx fs l) q = n + q
  | [], [], _, _ => ⟨rfl, fun q hq => by simp [fsN] at hq⟩
  | [], _ :: _, _, h => by simp [okRows] at h
  | .v t :: fs, [], _, h => by simp [okRows] at h
  | .r e t mv :: fs, [], _, h => by simp [okRows] at h
  | .v t :: fs, x :: l, n, h => okRows_ok (fs := fs) (l := l) h
  | .r e t mv :: fs, x :: l, n, h => by
    cases x <;> simp only [okRows] at h <;> first | cases h | skip
    rename_i j
    simp only [Bool.and_eq_true, beq_iff_eq] at h
    obtain ⟨h0, h⟩ := h
    obtain ⟨h1, h2⟩ := okRows_ok (fs := fs) (l := l) h
    refine ⟨h1, fun q hq => ?_⟩
    cases q with
    | zero => exact h0
    | succ q =>
      have := h2 q (by simp only [fsN] at hq; omega)
      rw [show n + (q + 1) = n + 1 + q by omega]
      exact this
theorem finMuts_ok {U' : Nat → Prop} {hd' : Nat → Value} (H : Rel ρ w0 U0 own fx hd0 st a w hd) (hU : ∀ b, b < w.heap.size → U' b → Us U0 st.ob.length hd b) : ∀ (ps : List PM) (n : Nat) {d : Ds (muts ps)}, finMuts st.ob ps n = some d → (∀ p ∈ ps, ∀ e fs, p ≠ .nbx e fs) → n + nOwn ps ≤ st.ob.length → (∀ q, q < nOwn ps → hd' (n + q) = hd (n + q)) → MutsOk ρ U' w hd' ps d n
  | [], _, _, _, _, _, _ => trivial
  | .val _ :: ps, n, d, h, hp, hl, hh => finMuts_ok H hU ps n h (fun p k => hp p (by simp [k])) hl hh
  | .nbx e fs :: ps, n, d, h, hp, hl, hh => absurd rfl (hp (.nbx e fs) (by simp) e fs)
  | .own e t :: ps, n, d, h, hp, hl, hh => by
    simp only [finMuts] at h
    split at h
    · rename_i e' u l hat
      split at h
      · rename_i hu
        obtain ⟨rfl, rfl⟩ := hu
        split at h
        · rename_i ys hys
          cases h
          have hro := H.ob n (row_lt hat)
          rw [hat] at hro
          have ht : Tr (Us U0 st.ob.length hd) w U' w := Tr.of (V := fun _ => False) (Ag.refl _ _) (fun _ _ h => h.elim) hU
          refine ⟨?_, finMuts_ok H hU ps (n + 1) hys (fun p k => hp p (by simp [k])) (by simp only [nOwn] at hl; omega) (fun q hq => by rw [show n + 1 + q = n + (q + 1) by omega]; exact hh (q + 1) (by simp [nOwn]; omega))⟩
          have := hh 0 (by simp [nOwn])
          rw [Nat.add_zero] at this
          rw [this]
          exact ro_row hro (fun b _ => ⟨rfl, Nat.zero_le _⟩) (.inl ht)
        · cases h
      · cases h
    · cases h
  | .cutp e t :: ps, n, d, h, hp, hl, hh => by
    simp only [finMuts] at h
    split at h
    · rename_i e' u l hat
      split at h
      · rename_i hu
        obtain ⟨rfl, rfl⟩ := hu
        split at h
        · rename_i ys hys
          cases h
          have hro := H.ob n (row_lt hat)
          rw [hat] at hro
          have ht : Tr (Us U0 st.ob.length hd) w U' w := Tr.of (V := fun _ => False) (Ag.refl _ _) (fun _ _ h => h.elim) hU
          refine ⟨?_, finMuts_ok H hU ps (n + 1) hys (fun p k => hp p (by simp [k])) (by simp only [nOwn] at hl; omega) (fun q hq => by rw [show n + 1 + q = n + (q + 1) by omega]; exact hh (q + 1) (by simp [nOwn]; omega))⟩
          have := hh 0 (by simp [nOwn])
          rw [Nat.add_zero] at this
          rw [this]
          exact ro_row hro (fun b _ => ⟨rfl, Nat.zero_le _⟩) (.inl ht)
        · cases h
      · cases h
    · cases h
  | .bx e fs :: ps, n, d, h, hp, hl, hh => by
    simp only [finMuts] at h
    split at h
    · rename_i e' l hat
      split at h
      · rename_i hc
        obtain ⟨rfl, hrw⟩ := hc
        split at h
        · rename_i y ys hy hys
          cases h
          obtain ⟨ok, hix⟩ := okRows_ok hrw
          have hro := H.ob n (ob_lt (by rw [hat]; simp))
          rw [hat] at hro
          have ht : Tr (Us U0 st.ob.length hd) w U' w := Tr.of (V := fun _ => False) (Ag.refl _ _) (fun _ _ h => h.elim) hU
          have h0 := hh 0 (by simp only [nOwn]; omega)
          rw [Nat.add_zero] at h0
          have hr : ∀ q, q < fsN fs → hd' (n + 1 + q) = hd (atn 0 (rIdx fs l) q) := fun q hq => by
            have := hh (q + 1) (by simp only [nOwn]; omega)
            rw [hix q hq, show n + 1 + q = n + (q + 1) by omega]
            exact this
          refine ⟨⟨?_, fun q hq => ?_⟩, finMuts_ok H hU ps (n + (1 + fsN fs)) hys (fun p k => hp p (by simp [k])) (by simp only [nOwn] at hl; omega) (fun q hq => by rw [Nat.add_assoc]; exact hh (1 + fsN fs + q) (by simp only [nOwn]; omega))⟩
          · rw [h0]
            exact ro_cells hro (fun b _ => Nat.zero_le _) (by rw [fsA_len, okF_alen ok]) (readF_ra ht (n + 1) hy hr)
          · rw [readF_row ok hy q hq, hr q hq]
            have hro2 := H.ob (atn 0 (rIdx fs l) q) (by rw [hix q hq]; simp only [nOwn] at hl; omega)
            obtain ⟨e3, t3, xs3, f1, _⟩ := fsO_row fs y q hq
            rw [readF_row ok hy q hq] at f1
            rw [f1] at hro2 ⊢
            exact ro_row hro2 (fun b _ => ⟨rfl, Nat.zero_le _⟩) (.inl ht)
        · cases h
      · cases h
    · cases h
/-- Where the objects that are handed back lie: their numbers; none: nowhere. -/
def rowIx : List Fd → List A → List (Option Nat)
  | .v _ :: fs, _ :: l => rowIx fs l
  | .r _ _ _ :: fs, .row j :: l => some j :: rowIx fs l
  | .r _ _ _ :: fs, _ :: l => none :: rowIx fs l
  | _, _ => []
def resIx (ob : List Ob) : List PM → List A → List (Option Nat)
  | .own _ _ :: ps, .row i :: xs => some i :: resIx ob ps xs
  | .cutp _ _ :: ps, .cut i _ _ :: xs => some i :: resIx ob ps xs
  | .cutp _ _ :: ps, _ :: xs => none :: resIx ob ps xs
  | .own _ _ :: ps, _ :: xs => none :: resIx ob ps xs
  | .nbx _ fs :: ps, .box i _ :: xs => some i :: (rowIx fs (cellsOf ob i) ++ resIx ob ps xs)
  | .nbx _ fs :: ps, _ :: xs => List.replicate (1 + fsN fs) none ++ resIx ob ps xs
  | _ :: ps, _ :: xs => resIx ob ps xs
  | _, _ => []
def hdOf (hd : Nat → Value) : Option Nat → Value
  | some i => hd i
  | none => nilV
theorem rowIx_some : ∀ (fs : List Fd) (l : List A), (rowIx fs l).filterMap id = rIdx fs l
  | [], l => by cases l <;> rfl
  | .v t :: fs, [] => rfl
  | .r e t mv :: fs, [] => rfl
  | .v t :: fs, x :: l => rowIx_some fs l
  | .r e t mv :: fs, x :: l => by
    cases x <;> simp [rowIx, rIdx, rowIx_some fs l]
theorem resIx_some {ob : List Ob} : ∀ (rs : List PM) (xs : List A), (resIx ob rs xs).filterMap id = ownRes ob rs xs
  | [], xs => by cases xs <;> rfl
  | p :: rs, [] => by cases p <;> rfl
  | .val t :: rs, x :: xs => by
    have e1 : resIx ob (.val t :: rs) (x :: xs) = resIx ob rs xs := by cases x <;> rfl
    have e2 : ownRes ob (.val t :: rs) (x :: xs) = ownRes ob rs xs := by cases x <;> rfl
    rw [e1, e2, resIx_some rs xs]
  | .bx e fs :: rs, x :: xs => by
    have e1 : resIx ob (.bx e fs :: rs) (x :: xs) = resIx ob rs xs := by cases x <;> rfl
    have e2 : ownRes ob (.bx e fs :: rs) (x :: xs) = ownRes ob rs xs := by cases x <;> rfl
    rw [e1, e2, resIx_some rs xs]
  | .own e t :: rs, x :: xs => by
    cases x <;> simp [resIx, ownRes, resIx_some rs xs]
  | .cutp e t :: rs, x :: xs => by
    cases x <;> simp [resIx, ownRes, resIx_some rs xs]
  | .nbx e fs :: rs, x :: xs => by
    have hrep : ∀ m, List.filterMap id (List.replicate m (none : Option Nat)) = [] := fun m => by induction m <;> simp_all [List.replicate_succ]
    cases x <;> simp [resIx, ownRes, resIx_some rs xs, rowIx_some]
theorem ix_mem : ∀ {L : List (Option Nat)} {q i : Nat}, atn none L q = some i → i ∈ L.filterMap id
  | [], q, i, h => by cases q <;> simp [atn] at h
  | x :: L, 0, i, h => by
    simp only [atn] at h
    subst h
    simp
  | x :: L, q + 1, i, h => by
    have := ix_mem (L := L) (q := q) h
    simp only [List.filterMap_cons]
    split
    · exact this
    · exact List.mem_cons_of_mem _ this
theorem ix_inj : ∀ {L : List (Option Nat)}, nodupB (L.filterMap id) = true → ∀ p q i, atn none L p = some i → atn none L q = some i → p = q
  | [], _, p, q, i, h, _ => by cases p <;> simp [atn] at h
  | x :: L, hn, p, q, i, h1, h2 => by
    cases x with
    | none =>
      cases p with
      | zero => simp [atn] at h1
      | succ p => cases q with
        | zero => simp [atn] at h2
        | succ q => rw [ix_inj (L := L) (by simpa using hn) p q i h1 h2]
    | some j =>
      obtain ⟨n1, n2⟩ := nodupB_cons (x := j) (l := L.filterMap id) (by simpa using hn)
      cases p with
      | zero => cases q with
        | zero => rfl
        | succ q =>
          simp only [atn] at h1 h2
          injection h1 with h1
          subst h1
          exact absurd (ix_mem h2) n1
      | succ p => cases q with
        | zero =>
          simp only [atn] at h1 h2
          injection h2 with h2
          subst h2
          exact absurd (ix_mem h1) n1
        | succ q => rw [ix_inj (L := L) n2 p q i h1 h2]
theorem readG_len {ob : List Ob} : ∀ {fs : List Fd} {l : List A} {y : (fsT fs).den}, readF true ob fs l = some y → (rowIx fs l).length = fsN fs
  | [], [], _, _ => rfl
  | [], _ :: _, _, h => by simp [readF] at h
  | .v t :: fs, [], _, h => by simp [readF] at h
  | .r e t mv :: fs, [], _, h => by simp [readF] at h
  | .v t :: fs, x :: l, y, h => by
    simp only [readF] at h
    split at h
    · rename_i y1 y2 h1 h2
      exact readG_len (fs := fs) (l := l) h2
    · cases h
  | .r e t mv :: fs, x :: l, y, h => by
    cases x with
    | row j =>
      simp only [readF] at h
      split at h
      · split at h
        · split at h
          · rename_i ys hys; simp [rowIx, fsN, readG_len (fs := fs) hys]
          · cases h
        · cases h
      · cases h
    | nls =>
      simp only [readF, if_true] at h
      split at h
      · rename_i ys hys; simp [rowIx, fsN, readG_len (fs := fs) hys]
      · cases h
    | _ => simp [readF] at h
/-- A new struct, as the caller sees it. -/
theorem readG_ok {U' : Nat → Prop} {hd' : Nat → Value} (H : Rel ρ w0 U0 own fx hd0 st a w hd) (ht : Tr (Us U0 st.ob.length hd) w U' w) : ∀ {fs : List Fd} {l : List A} {y : (fsT fs).den} (m : Nat), readF true st.ob fs l = some y → (∀ q, q < fsN fs → hd' (m + q) = hdOf hd (atn none (rowIx fs l) q)) → (∀ j ∈ rIdx fs l, own ≤ j) →
    l.length = fs.length ∧ (∀ i u, RA ρ (Us U0 st.ob.length hd) w hd (atn .un l i) u → RA ρ U' w hd' (atn .un (fsA fs y m) i) u) ∧ ∀ q, q < fsN fs → RO ρ U' w hd' w0.heap.size (atn .gone (fsO fs y) q) (hd' (m + q))
  | [], [], _, _, _, _, _ => ⟨rfl, fun i u h => by cases i <;> exact h, fun q hq => by simp [fsN] at hq⟩
  | [], _ :: _, _, _, h, _, _ => by simp [readF] at h
  | .v t :: fs, [], _, _, h, _, _ => by simp [readF] at h
  | .r e t mv :: fs, [], _, _, h, _, _ => by simp [readF] at h
  | .v t :: fs, x :: l, y, m, h, hq, ho => by
    simp only [readF] at h
    split at h
    · rename_i y1 y2 h1 h2
      injection h with h
      subst h
      obtain ⟨g2, g3, g4⟩ := readG_ok H ht m h2 hq ho
      refine ⟨by simp [g2], fun i u hr => ?_, g4⟩
      cases i with
      | zero => exact IRd.tr (toV0 h1 hr) ht
      | succ i => exact g3 i u hr
    · cases h
  | .r e t mv :: fs, x :: l, y, m, h, hq, ho => by
    have hq' : ∀ (z : Option Nat), rowIx (.r e t mv :: fs) (x :: l) = z :: rowIx fs l → hd' m = hdOf hd z ∧ ∀ q, q < fsN fs → hd' (m + 1 + q) = hdOf hd (atn none (rowIx fs l) q) := fun z e1 => by
      rw [e1] at hq
      refine ⟨hq 0 (by simp [fsN]), fun q hq1 => ?_⟩
      have := hq (q + 1) (by simp only [fsN]; omega)
      rw [show m + 1 + q = m + (q + 1) by omega]
      exact this
    cases x with
    | row j =>
      obtain ⟨h0, hq2⟩ := hq' (some j) rfl
      simp only [readF] at h
      split at h
      · rename_i e' u' xs hat
        split at h
        · rename_i hh
          obtain ⟨rfl, rfl⟩ := hh
          split at h
          · rename_i ys hys
            injection h with h
            subst h
            obtain ⟨g2, g3, g4⟩ := readG_ok H ht (m + 1) hys hq2 (fun i hi => ho i (by simp [rIdx, hi]))
            refine ⟨by simp [g2], fun i u hr => ?_, fun q hq1 => ?_⟩
            · cases i with
              | zero => show u = hd' m; rw [h0]; exact hr
              | succ i => exact g3 i u hr
            · cases q with
              | zero =>
                rw [Nat.add_zero, h0]
                have hro := H.ob j (row_lt hat)
                have hoj := ho j (by simp [rIdx])
                rw [hat, if_neg (by omega)] at hro
                exact ro_row hro (fun b hb => ⟨rfl, (hro.blk_ge hb).1⟩) (.inl ht)
              | succ q =>
                have := g4 q (by simp only [fsN] at hq1; omega)
                rw [show m + (q + 1) = m + 1 + q by omega]
                exact this
          · cases h
        · cases h
      · cases h
    | nls =>
      obtain ⟨h0, hq2⟩ := hq' none rfl
      simp only [readF, if_true] at h
      split at h
      · rename_i ys hys
        injection h with h
        subst h
        obtain ⟨g2, g3, g4⟩ := readG_ok H ht (m + 1) hys hq2 (fun i hi => ho i (by simp [rIdx, hi]))
        refine ⟨by simp [g2], fun i u hr => ?_, fun q hq1 => ?_⟩
        · cases i with
          | zero => show u = hd' m; rw [h0]; exact hr
          | succ i => exact g3 i u hr
        · cases q with
          | zero =>
            rw [Nat.add_zero, h0]
            exact ⟨[], World.ownsRow_nil _ _ _ _, rfl⟩
          | succ q =>
            have := g4 q (by simp only [fsN] at hq1; omega)
            rw [show m + (q + 1) = m + 1 + q by omega]
            exact this
      · cases h
    | _ => simp [readF] at h
def outRowsOf (ob : List Ob) : A → List Nat
  | .row i => [i]
  | .cut i _ _ => [i]
  | .box i _ => i :: (cellsOf ob i).flatMap A.rowOf
  | _ => []
theorem gathR_ok {U' : Nat → Prop} (H : Rel ρ w0 U0 own fx hd0 st a w hd) (hU : ∀ b, b < w.heap.size → U' b → Us U0 st.ob.length hd b) {l : List A} {vs : List Value} (h : ∀ i, i < l.length → ∃ x, vs[i]? = some x ∧ RA ρ (Us U0 st.ob.length hd) w hd (atn .un l i) x) (hr : ∀ j ∈ l.flatMap A.rowOf, ∀ b, blk (hd j) = some b → ¬ U' b) : ∀ {t : T} {c : Nat} {y : t.den}, gathR st.ob l t c = some y → ∃ ds, ICs ρ U' w t ds y ∧ ∀ j, j < t.size → vs[c + j]? = ds[j]? := by
  have one : ∀ {u : T}, u.isPair = false → ∀ {c : Nat} {y : u.den}, A.toV st.ob u (atn .un l c) = some y → ∃ ds, ICs ρ U' w u ds y ∧ ∀ j, j < u.size → vs[c + j]? = ds[j]? := fun {u} hp {c} {y} e => by
    have hc : c < l.length := by
      rcases Nat.lt_or_ge c l.length with q | q
      · exact q
      · rw [atn_out _ _ _ q] at e
        cases u <;> simp [A.toV] at e
    obtain ⟨x, hx, hra⟩ := h c hc
    obtain ⟨cs, rfl, hi⟩ := toV_ird H e hra hU (fun i hi => hr i (List.mem_flatMap.2 ⟨_, atn_mem .un l c hc, hi⟩))
    obtain ⟨v, rfl, _⟩ := ICs.one hp hi
    have hs := T.size_one _ hp
    refine ⟨[v], hi, fun j hj => ?_⟩
    obtain rfl : j = 0 := by omega
    rw [pack_one hp] at hx
    simpa using hx
  intro t
  induction t with
  | pair a b iha ihb =>
    intro c y e
    unfold gathR at e
    split at e
    · rename_i x1 x2 h1 h2
      injection e with e
      subst e
      obtain ⟨d1, i1, j1⟩ := iha h1
      obtain ⟨d2, i2, j2⟩ := ihb h2
      have l1 := ICs.length i1
      have hs : (T.pair a b).size = a.size + b.size := rfl
      refine ⟨d1 ++ d2, ⟨d1, d2, rfl, i1, i2⟩, fun j hj => ?_⟩
      by_cases hj1 : j < a.size
      · rw [List.getElem?_append_left (by omega)]
        exact j1 j hj1
      · rw [List.getElem?_append_right (by omega), l1, ← j2 (j - a.size) (by omega), show c + a.size + (j - a.size) = c + j by omega]
    · cases e
  | one t ih => intro c y e; exact ih e
  | int k => intro c y e; exact one rfl e
  | bool => intro c y e; exact one rfl e
  | flt => intro c y e; exact one rfl e
  | list t _ => intro c y e; exact one rfl e
  | obj n => intro c y e; exact one rfl e
  | ptr t _ => intro c y e; exact one rfl e
theorem gathR_nil (ob : List Ob) : ∀ (t : T) (c : Nat), gathR ob [] t c = none := by
  intro t
  induction t with
  | pair a b iha ihb => intro c; unfold gathR; rw [iha]
  | one t ih => intro c; exact ih c
  | _ => intro c; cases c <;> rfl
theorem outV_box {ob : List Ob} {u : T} {x : A} {y : u.den} (h : outV ob u x = some y) : A.toV ob u x = some y ∨ ∃ t i, ∃ hu : u = T.ptr t, ∃ z, x = .box i 0 ∧ gathR ob (cellsOf ob i) t 0 = some z ∧ T.cast hu y = (some z : Option t.den) := by
  cases u with
  | ptr t =>
    cases x with
    | box i k =>
      cases k with
      | zero =>
        simp only [outV] at h
        split at h
        · rename_i z hz
          injection h with h
          subst h
          exact .inr ⟨t, i, rfl, z, rfl, hz, rfl⟩
        · cases h
      | succ k => exact .inl h
    | _ => exact .inl h
  | _ => exact .inl h
/-- What is handed back to be read for ever. -/
theorem outV_ird {U' : Nat → Prop} (H : Rel ρ w0 U0 own fx hd0 st a w hd) (hU : ∀ b, b < w.heap.size → U' b → Us U0 st.ob.length hd b) {u : T} {x : A} {v : Value} {y : u.den} (h : outV st.ob u x = some y) (hx : RA ρ (Us U0 st.ob.length hd) w hd x v) (hr : ∀ j ∈ outRowsOf st.ob x, ∀ b, blk (hd j) = some b → ¬ U' b) : IRd ρ U' w u v y := by
  rcases outV_box h with h | ⟨t, i, rfl, z, rfl, hz, e0⟩
  · exact toV_ird H h hx hU (fun i hi => hr i (by cases x <;> simp [A.rowOf] at hi <;> subst hi <;> simp [outRowsOf]))
  · have e0 : y = some z := e0
    subst e0
    obtain ⟨b, e1, e2⟩ := hx
    have hi : i < st.ob.length := by
      rcases Nat.lt_or_ge i st.ob.length with q | q
      · exact q
      · have : cellsOf st.ob i = [] := by unfold cellsOf; rw [atn_out _ _ _ q]
        rw [this, gathR_nil] at hz
        cases hz
    have hro := H.ob i hi
    cases hat : atn Ob.gone st.ob i with
    | cells e l =>
      rw [hat] at hro
      obtain ⟨b', vs, q1, q2, q3, q4, q5⟩ := hro
      rw [e1] at q1
      injection q1 with q1
      injection q1 with q1
      injection q1 with q1
      subst q1
      rw [cells_of hat] at hz
      obtain ⟨ds, g1, g2⟩ := gathR_ok H hU (fun i hi => by
        obtain ⟨x, x1, _, x3⟩ := q5 i hi
        exact ⟨x, x1, x3⟩) (fun j hj => hr j (by simp only [outRowsOf, cells_of hat]; exact List.mem_cons_of_mem _ hj)) hz
      refine ⟨[v], rfl, v, rfl, b, 0, ds, e2, g1, fun w' hw' j hj => ?_⟩
      have hb : w'.heap[b]? = w.heap[b]? := hw'.block b (Array.getElem?_eq_some_iff.1 q3).1 (hr i (by simp [outRowsOf]) b (by rw [e1]; rfl))
      rw [← g2 j hj]
      simp [World.cell?, hb, q3]
    | row e t xs => rw [hat] at hro; obtain ⟨cs, ⟨_, h1⟩, _⟩ := hro; rcases h1 with ⟨h1, _⟩ | ⟨_, _, _, h1, _⟩ <;> rw [e1] at h1 <;> cases h1
    | gone => rw [hat] at hro; rw [show hd i = nilV from hro] at e1; cases e1
theorem outRows_sub {ob : List Ob} {rs : List PM} {xs : List A} {t : T} {x : A} : ∀ i ∈ outRowsOf ob x, i ∈ outRows ob (.val t :: rs) (x :: xs) := fun i hi => by
  cases x with
  | row j => simp only [outRowsOf, List.mem_singleton] at hi; subst hi; simp [outRows]
  | cut j n f => simp only [outRowsOf, List.mem_singleton] at hi; subst hi; simp [outRows]
  | box j k =>
    simp only [outRowsOf, List.mem_cons] at hi
    simp only [outRows, List.mem_cons, List.mem_append]
    exact hi.imp id .inl
  | _ => simp [outRowsOf] at hi
theorem finRes_nbx {ob : List Ob} {e : TypeId} {fs : List Fd} {rs : List PM} {x : A} {xs : List A} {d : Ds ((PM.nbx e fs :: rs).map PM.ty)} (h : finRes ob (.nbx e fs :: rs) (x :: xs) = some d) : (∃ ys, x = .nlp ∧ finRes ob rs xs = some ys ∧ d = ((none : Option (fsT fs).den), ys)) ∨ ∃ i l y ys, x = .box i 0 ∧ atn .gone ob i = .cells e l ∧ readF true ob fs l = some y ∧ finRes ob rs xs = some ys ∧ d = (some y, ys) := by
  cases x with
  | nlp =>
    simp only [finRes] at h
    split at h
    · rename_i ys hys
      injection h with h
      exact .inl ⟨ys, rfl, hys, h.symm⟩
    · cases h
  | box i k =>
    cases k with
    | succ k => simp [finRes] at h
    | zero =>
      simp only [finRes] at h
      split at h
      · rename_i e' l hat
        split at h
        · rename_i he
          subst he
          split at h
          · rename_i y ys hy hys
            injection h with h
            exact .inr ⟨_, _, _, _, rfl, hat, hy, hys, h.symm⟩
          · cases h
        · cases h
      · cases h
  | _ => simp [finRes] at h
theorem atn_app_l {α : Type} {d : α} {l r : List α} {q : Nat} (h : q < l.length) : atn d (l ++ r) q = atn d l q := by rw [atn_append, if_pos h]
theorem atn_app_r {α : Type} {d : α} {l r : List α} {m : Nat} (hm : l.length = m) (q : Nat) : atn d (l ++ r) (m + q) = atn d r q := by rw [atn_append, if_neg (by omega)]; congr 1; omega
theorem atn_rep_none (m i : Nat) : atn none (List.replicate m (none : Option Nat)) i = none := by
  induction m generalizing i with
  | zero => cases i <;> rfl
  | succ m ih => cases i with
    | zero => rfl
    | succ i => exact ih i
theorem finRes_ok {U' : Nat → Prop} {hd' : Nat → Value} (H : Rel ρ w0 U0 own fx hd0 st a w hd) (hU : ∀ b, b < w.heap.size → U' b → Us U0 st.ob.length hd b) : ∀ (rs : List PM) (xs : List A) (vs : List Value) (n : Nat) {d : Ds (rs.map PM.ty)}, finRes st.ob rs xs = some d → All2 (RA ρ (Us U0 st.ob.length hd) w hd) xs vs → (∀ q, q < (resIx st.ob rs xs).length → hd' (n + q) = hdOf hd (atn none (resIx st.ob rs xs) q)) →
    (∀ i ∈ outRows st.ob rs xs, ∀ b, blk (hd i) = some b → ¬ U' b) → (∀ i ∈ ownRes st.ob rs xs, own ≤ i) → RetsOk ρ U' w hd' w0.heap.size rs d vs n ∧ (resIx st.ob rs xs).length = nOwn rs
  | [], [], [], n, d, h, _, _, _, _ => ⟨trivial, rfl⟩
  | [], [], _ :: _, _, _, _, h, _, _, _ => h.elim
  | [], _ :: _, _, _, _, h, _, _, _, _ => by simp [finRes] at h
  | .val t :: rs, [], _, _, _, h, _, _, _, _ => by simp [finRes] at h
  | .own e t :: rs, [], _, _, _, h, _, _, _, _ => by simp [finRes] at h
  | .bx e fs :: rs, xs, _, _, _, h, _, _, _, _ => by cases xs <;> simp [finRes] at h
  | .nbx e fs :: rs, [], _, _, _, h, _, _, _, _ => by simp [finRes] at h
  | .cutp e t :: rs, [], _, _, _, h, _, _, _, _ => by simp [finRes] at h
  | .cutp e t :: rs, x :: xs, v :: vs, n, d, h, ha, hh, hv, ho => by
    have hx : ∃ i m, ∃ l : List t.den, ∃ ys, x = .cut i m true ∧ atn .gone st.ob i = .row e t l ∧ finRes st.ob rs xs = some ys ∧ d = ((l, (m : Int)), ys) := by
      cases x with
      | cut i m f =>
        cases f with
        | false => simp [finRes] at h
        | true =>
          simp only [finRes] at h
          split at h
          · rename_i e' u l hat
            split at h
            · rename_i hu
              obtain ⟨rfl, rfl⟩ := hu
              split at h
              · rename_i ys hys
                injection h with h
                exact ⟨_, _, _, _, rfl, hat, hys, h.symm⟩
              · cases h
            · cases h
          · cases h
      | _ => simp [finRes] at h
    obtain ⟨i, m, l, ys, rfl, hat, hys, rfl⟩ := hx
    have h0 := hh 0 (by simp [resIx])
    simp only [resIx, atn, Nat.add_zero] at h0
    have h0' : hd' n = hd i := h0
    obtain ⟨h1, h2⟩ := finRes_ok (hd' := hd') H hU rs xs vs (n + 1) hys ha.2 (fun q hq => by
      have := hh (q + 1) (by simpa [resIx] using hq)
      rw [show n + 1 + q = n + (q + 1) by omega]
      simpa [resIx, atn] using this) (fun j hj => hv j (by simpa [outRows] using hj)) (fun j hj => ho j (by simp [ownRes, hj]))
    have hro := H.ob i (row_lt hat)
    rw [hat, if_neg (by have := ho i (by simp [ownRes]); omega)] at hro
    have ht : Tr (Us U0 st.ob.length hd) w U' w := Tr.of (V := fun _ => False) (Ag.refl _ _) (fun _ _ h => h.elim) hU
    refine ⟨⟨cut_ra (i := i) ha.1 h0', ?_, h1⟩, by simp [resIx, nOwn, h2]⟩
    rw [h0']
    exact ro_row hro (fun b hb => ⟨rfl, (hro.blk_ge hb).1⟩) (.inl ht)
  | p :: rs, x :: xs, [], _, _, _, h, _, _, _ => h.elim
  | .val t :: rs, x :: xs, v :: vs, n, d, h, ha, hh, hv, ho => by
    simp only [finRes] at h
    split at h
    · rename_i y ys hy hys
      cases h
      have e1 : resIx st.ob (.val t :: rs) (x :: xs) = resIx st.ob rs xs := by cases x <;> rfl
      have e2 : ownRes st.ob (.val t :: rs) (x :: xs) = ownRes st.ob rs xs := by cases x <;> rfl
      rw [e1] at hh ⊢
      rw [e2] at ho
      obtain ⟨h1, h2⟩ := finRes_ok (hd' := hd') H hU rs xs vs n hys ha.2 hh (fun i hi => hv i (by cases x <;> simp [outRows, hi])) ho
      exact ⟨⟨outV_ird H hU hy ha.1 (fun i hi => hv i (outRows_sub i hi)), h1⟩, h2⟩
    · cases h
  | .own e t :: rs, x :: xs, v :: vs, n, d, h, ha, hh, hv, ho => by
    cases x with
    | nls =>
      simp only [finRes] at h
      split at h
      · rename_i ys hys
        cases h
        have h0 := hh 0 (by simp [resIx])
        simp only [resIx, atn, Nat.add_zero] at h0
        obtain ⟨h1, h2⟩ := finRes_ok (hd' := hd') H hU rs xs vs (n + 1) hys ha.2 (fun q hq => by
          have := hh (q + 1) (by simpa [resIx] using hq)
          rw [show n + 1 + q = n + (q + 1) by omega]
          simpa [resIx, atn] using this) (fun i hi => hv i (by simpa [outRows] using hi)) (fun i hi => ho i (by simpa [ownRes] using hi))
        have e1 : v = nilV := ha.1
        exact ⟨⟨by rw [h0]; exact e1, by rw [e1]; exact ⟨[], World.ownsRow_nil _ _ _ _, rfl⟩, h1⟩, by simp [resIx, nOwn, h2]⟩
      · cases h
    | row i =>
      simp only [finRes] at h
      split at h
      · rename_i e' u l hat
        split at h
        · rename_i hu
          obtain ⟨rfl, rfl⟩ := hu
          split at h
          · rename_i ys hys
            cases h
            have h0 := hh 0 (by simp [resIx])
            simp only [resIx, atn, Nat.add_zero] at h0
            obtain ⟨h1, h2⟩ := finRes_ok (hd' := hd') H hU rs xs vs (n + 1) hys ha.2 (fun q hq => by
              have := hh (q + 1) (by simpa [resIx] using hq)
              rw [show n + 1 + q = n + (q + 1) by omega]
              simpa [resIx, atn] using this) (fun j hj => hv j (by simpa [outRows] using hj)) (fun j hj => ho j (by simp [ownRes, hj]))
            have hro := H.ob i (row_lt hat)
            rw [hat, if_neg (by have := ho i (by simp [ownRes]); omega)] at hro
            have ht : Tr (Us U0 st.ob.length hd) w U' w := Tr.of (V := fun _ => False) (Ag.refl _ _) (fun _ _ h => h.elim) hU
            have e1 : v = hd i := ha.1
            refine ⟨⟨by rw [h0]; exact e1, ?_, h1⟩, by simp [resIx, nOwn, h2]⟩
            rw [e1]
            exact ro_row hro (fun b hb => ⟨rfl, (hro.blk_ge hb).1⟩) (.inl ht)
          · cases h
        · cases h
      · cases h
    | _ => simp [finRes] at h
  | .nbx e fs :: rs, x :: xs, v :: vs, n, d, h, ha, hh, hv, ho => by
    have ht : Tr (Us U0 st.ob.length hd) w U' w := Tr.of (V := fun _ => False) (Ag.refl _ _) (fun _ _ h => h.elim) hU
    rcases finRes_nbx h with ⟨ys, rfl, hys, rfl⟩ | ⟨i, l, y, ys, rfl, hat, hrd, hys, rfl⟩
    · have e1 : resIx st.ob (.nbx e fs :: rs) (.nlp :: xs) = List.replicate (1 + fsN fs) none ++ resIx st.ob rs xs := rfl
      rw [e1] at hh ⊢
      have hl : (List.replicate (1 + fsN fs) (none : Option Nat)).length = 1 + fsN fs := by simp
      obtain ⟨h1, h2⟩ := finRes_ok (hd' := hd') H hU rs xs vs (n + (1 + fsN fs)) hys ha.2 (fun q hq => by
        have := hh (1 + fsN fs + q) (by rw [List.length_append, hl]; omega)
        rw [Nat.add_assoc, this, atn_app_r hl]) (fun i hi => hv i (by simpa [outRows] using hi)) (fun i hi => ho i (by simpa [ownRes] using hi))
      refine ⟨⟨⟨ha.1, fun q hq => ?_⟩, h1⟩, by rw [List.length_append, hl, h2]; simp only [nOwn]; omega⟩
      rw [hh q (by rw [List.length_append, hl]; omega), atn_app_l (by rw [hl]; exact hq), atn_rep_none]
      rfl
    · have hcl := cells_of hat
      have e1 : resIx st.ob (.nbx e fs :: rs) (.box i 0 :: xs) = some i :: (rowIx fs l ++ resIx st.ob rs xs) := by simp only [resIx, hcl]
      have e2 : ownRes st.ob (.nbx e fs :: rs) (.box i 0 :: xs) = i :: (rIdx fs l ++ ownRes st.ob rs xs) := by simp only [ownRes, hcl]
      rw [e1] at hh ⊢
      rw [e2] at ho
      have hio := ho i (by simp)
      have hlen0 := readG_len hrd
      have h0 : hd' n = hd i := hh 0 (by simp)
      obtain ⟨g2, g3, g4⟩ := readG_ok (hd' := hd') H ht (n + 1) hrd (fun q hq => by
        have := hh (q + 1) (by rw [List.length_cons, List.length_append]; omega)
        rw [show n + 1 + q = n + (q + 1) by omega, this, show atn none (some i :: (rowIx fs l ++ resIx st.ob rs xs)) (q + 1) = atn none (rowIx fs l ++ resIx st.ob rs xs) q from rfl, atn_app_l (by omega)]) (fun j hj => ho j (by simp [hj]))
      obtain ⟨h1, h2⟩ := finRes_ok (hd' := hd') H hU rs xs vs (n + (1 + fsN fs)) hys ha.2 (fun q hq => by
        have := hh (fsN fs + q + 1) (by rw [List.length_cons, List.length_append]; omega)
        rw [show n + (1 + fsN fs) + q = n + (fsN fs + q + 1) by omega, this, show atn none (some i :: (rowIx fs l ++ resIx st.ob rs xs)) (fsN fs + q + 1) = atn none (rowIx fs l ++ resIx st.ob rs xs) (fsN fs + q) from rfl, atn_app_r hlen0]) (fun j hj => hv j (by simpa [outRows] using hj)) (fun j hj => ho j (by simp [hj]))
      have hro := H.ob i (ob_lt (by rw [hat]; simp))
      rw [hat, if_neg (by omega)] at hro
      have ev : v = hd i := by
        obtain ⟨b, q1, q2⟩ := ha.1
        rw [q1]; exact q2
      refine ⟨⟨⟨by rw [h0]; exact ev, ?_, g4⟩, h1⟩, by rw [List.length_cons, List.length_append, h2, hlen0]; simp only [nOwn]; omega⟩
      rw [h0]
      exact ro_cells hro (fun b hb => (hro.blk_ge hb).1) (by rw [fsA_len, g2]) g3
theorem results_run {fn : Func} {res : List Tmp} (h : fn.results = (res.map ResultVar.tmp).toArray) (tmps : Array Value) (P : Program) (w : World) : (results fn tmps).run P w = .ok (oneV (res.map fun t => tmps.getD t undef)) w := by
  unfold results
  rw [h, Array.mapM_eq_mapM_toList]
  have := mapM_run (P := P) (f := fun r : ResultVar => (match r with
    | .tmp t => pure (tmps.getD t undef)
    | .cell a t => do loadVar t (← asAddr (tmps.getD a undef)) : Sem Value)) (g := fun r => match r with
    | .tmp t => tmps.getD t undef
    | .cell _ _ => undef) (res.map ResultVar.tmp) w (fun x hx => by
      obtain ⟨t, _, rfl⟩ := List.mem_map.1 hx
      rfl)
  simp only [map_eq_pure_bind, Sem.run_bind]
  erw [this]
  simp only [Result.andThen_ok, Sem.run_pure, List.map_map]
  congr 1
  generalize hl : List.map ((fun r : ResultVar => match r with
    | .tmp t => tmps.getD t undef
    | .cell _ _ => undef) ∘ ResultVar.tmp) res = l
  have hl2 : List.map (fun t => tmps.getD t undef) res = l := by rw [← hl]; rfl
  rw [hl2]
  cases l with
  | nil => rfl
  | cons x l => cases l with
    | nil => rfl
    | cons y l => simp [oneV]
theorem own_lt {n : Nat} {ob : List Ob} (ho : ∀ i, ∀ j ∈ (atn .gone ob i).refs, j < n) : ∀ (rs : List PM) (xs : List A), (∀ x ∈ xs, ∀ j ∈ x.refs, j < n) → ∀ i ∈ ownRes ob rs xs, i < n := by
  intro rs
  induction rs with
  | nil => intro xs _ i hi; cases xs <;> simp [ownRes] at hi
  | cons p rs ih =>
    intro xs hx i hi
    cases xs with
    | nil => cases p <;> simp [ownRes] at hi
    | cons x xs =>
      have hx' : ∀ y ∈ xs, ∀ j ∈ y.refs, j < n := fun y hy => hx y (by simp [hy])
      cases p with
      | val t => exact ih xs hx' i (by cases x <;> simpa [ownRes] using hi)
      | bx e fs => exact ih xs hx' i (by cases x <;> simpa [ownRes] using hi)
      | cutp e t =>
        cases x with
        | cut j m f =>
          simp only [ownRes, List.mem_cons] at hi
          rcases hi with rfl | hi
          · exact hx (.cut i m f) (by simp) i (by simp [A.refs])
          · exact ih xs hx' i hi
        | _ => exact ih xs hx' i (by simpa [ownRes] using hi)
      | own e t =>
        cases x with
        | row j =>
          simp only [ownRes, List.mem_cons] at hi
          rcases hi with rfl | hi
          · exact hx (.row i) (by simp) i (by simp [A.refs])
          · exact ih xs hx' i hi
        | _ => exact ih xs hx' i (by simpa [ownRes] using hi)
      | nbx e fs =>
        cases x with
        | box j k =>
          simp only [ownRes, List.mem_cons, List.mem_append] at hi
          rcases hi with rfl | hi | hi
          · exact hx (.box i k) (by simp) i (by simp [A.refs])
          · refine ho j i ?_
            have := rIdx_refs i hi
            unfold cellsOf at this
            split at this
            · rename_i hat; rw [hat]; exact this
            · simp at this
          · exact ih xs hx' i hi
        | _ => exact ih xs hx' i (by simpa [ownRes] using hi)
theorem out_lt {n : Nat} {ob : List Ob} (ho : ∀ i, ∀ j ∈ (atn .gone ob i).refs, j < n) : ∀ (rs : List PM) (xs : List A), (∀ x ∈ xs, ∀ j ∈ x.refs, j < n) → ∀ i ∈ outRows ob rs xs, i < n := by
  intro rs
  induction rs with
  | nil => intro xs _ i hi; cases xs <;> simp [outRows] at hi
  | cons p rs ih =>
    intro xs hx i hi
    cases xs with
    | nil => cases p <;> simp [outRows] at hi
    | cons x xs =>
      have hx' : ∀ y ∈ xs, ∀ j ∈ y.refs, j < n := fun y hy => hx y (by simp [hy])
      cases p with
      | own e t => exact ih xs hx' i (by cases x <;> simpa [outRows] using hi)
      | bx e fs => exact ih xs hx' i (by cases x <;> simpa [outRows] using hi)
      | nbx e fs => exact ih xs hx' i (by cases x <;> simpa [outRows] using hi)
      | cutp e t => exact ih xs hx' i (by cases x <;> simpa [outRows] using hi)
      | val t =>
        cases x with
        | row j =>
          simp only [outRows, List.mem_cons] at hi
          rcases hi with rfl | hi
          · exact hx (.row i) (by simp) i (by simp [A.refs])
          · exact ih xs hx' i hi
        | cut j m f =>
          simp only [outRows, List.mem_cons] at hi
          rcases hi with rfl | hi
          · exact hx (.cut i m f) (by simp) i (by simp [A.refs])
          · exact ih xs hx' i hi
        | box j k =>
          simp only [outRows, List.mem_cons, List.mem_append] at hi
          rcases hi with rfl | hi | hi
          · exact hx (.box i k) (by simp) i (by simp [A.refs])
          · refine ho j i ?_
            obtain ⟨y, hy, hyi⟩ := List.mem_flatMap.1 hi
            unfold cellsOf at hy
            split at hy
            · rename_i hat
              rw [hat]
              refine List.mem_flatMap.2 ⟨y, hy, ?_⟩
              cases y <;> simp [A.rowOf] at hyi <;> subst hyi <;> simp [A.refs]
            · simp at hy
          · exact ih xs hx' i hi
        | _ => exact ih xs hx' i (by simpa [outRows] using hi)
theorem fin_ok {ps : List PM} (H : Rel ρ w0 U0 (nOwn ps) (fxP ps) hd0 st a w hd) {res : List Tmp} {rs : List PM} (hnb : ∀ p ∈ ps, ∀ e fs, p ≠ .nbx e fs) {d : Ds (muts ps ++ rs.map PM.ty)} (h : fin (nOwn ps) res ps rs st = some d) :
    ∃ hd', (∀ i, i < nOwn ps → fxP ps i = true → hd' i = hd0 i) ∧ (∀ i, i < nOwn ps → ∀ b, blk (hd' i) = some b → blk (hd0 i) = some b ∨ w0.heap.size ≤ b) ∧ Apart (nOwn ps + nOwn rs) hd' ∧ MutsOk ρ (Us U0 (nOwn ps + nOwn rs) hd') w hd' ps (dl d) 0 ∧ RetsOk ρ (Us U0 (nOwn ps + nOwn rs) hd') w hd' w0.heap.size rs (dr d) (res.map fun t => a.tmps.getD t undef) (nOwn ps) := by
  unfold fin at h
  simp only at h
  split at h
  · rename_i hc
    simp only [Bool.and_eq_true, List.all_eq_true, Bool.not_eq_true', List.contains_eq_mem, decide_eq_false_iff_not] at hc
    obtain ⟨⟨c1, c2⟩, c3⟩ := hc
    split at h
    · rename_i d1 d2 h1 h2
      cases h
      rw [dl_cat, dr_cat]
      generalize hxs : res.map (atn .un st.tm) = xs at h2 c1 c2 c3
      have hall : All2 (RA ρ (Us U0 st.ob.length hd) w hd) xs (res.map fun t => a.tmps.getD t undef) := by
        subst hxs
        clear h2 c1 c2 c3 h1
        induction res with
        | nil => trivial
        | cons t res ih => exact ⟨by simpa [ev, Act.eval] using H.ev_ (.tmp t), ih⟩
      have hxr : ∀ x ∈ xs, ∀ j ∈ x.refs, j < st.ob.length := fun x hx j hj => by
        rw [← hxs] at hx
        obtain ⟨t, _, rfl⟩ := List.mem_map.1 hx
        exact H.wt t j hj
      have hlt : ∀ i ∈ ownRes st.ob rs xs, i < st.ob.length := own_lt H.wo rs xs hxr
      let hd' : Nat → Value := fun i => if i < nOwn ps then hd i else hdOf hd (atn none (resIx st.ob rs xs) (i - nOwn ps))
      have hd1 : ∀ i, i < nOwn ps → hd' i = hd i := fun i hi => by simp only [hd']; rw [if_pos hi]
      have hd2 : ∀ q, hd' (nOwn ps + q) = hdOf hd (atn none (resIx st.ob rs xs) q) := fun q => by simp only [hd']; rw [if_neg (by omega)]; congr 2; omega
      have hownlt : ∀ i ∈ ownRes st.ob rs xs, nOwn ps ≤ i := fun i hi => by have := (c2 i hi).1; simpa using this
      have hsome : ∀ q b, blk (hdOf hd (atn none (resIx st.ob rs xs) q)) = some b → ∃ i, atn none (resIx st.ob rs xs) q = some i ∧ i ∈ ownRes st.ob rs xs ∧ blk (hd i) = some b := fun q b hb => by
        cases hq : atn none (resIx st.ob rs xs) q with
        | none => rw [hq] at hb; simp [hdOf, blk_nilV] at hb
        | some i =>
          rw [hq] at hb
          exact ⟨i, rfl, by rw [← resIx_some]; exact ix_mem hq, hb⟩
      have hU : ∀ b, b < w.heap.size → Us U0 (nOwn ps + nOwn rs) hd' b → Us U0 st.ob.length hd b := by
        rintro b _ (hu | ⟨i, hi, hib⟩)
        · exact .inl hu
        · rcases Nat.lt_or_ge i (nOwn ps) with h3 | h3
          · rw [hd1 i h3] at hib
            exact .inr ⟨i, Nat.lt_of_lt_of_le h3 H.ow, hib⟩
          · have e1 := hd2 (i - nOwn ps)
            rw [show nOwn ps + (i - nOwn ps) = i by omega] at e1
            rw [e1] at hib
            obtain ⟨j, _, h5, h6⟩ := hsome _ b hib
            exact .inr ⟨j, hlt j h5, h6⟩
      have hvr : ∀ i ∈ outRows st.ob rs xs, ∀ b, blk (hd i) = some b → ¬ Us U0 (nOwn ps + nOwn rs) hd' b := by
        intro i hi b hb hu
        have hil : i < st.ob.length := out_lt H.wo rs xs hxr i hi
        have hio : nOwn ps ≤ i := by have := c3 i hi; simpa using this
        rcases hu with hu | ⟨q, hq, hqb⟩
        · exact H.u0n hil hb hu
        · rcases Nat.lt_or_ge q (nOwn ps) with h3 | h3
          · rw [hd1 q h3] at hqb
            exact H.ne i q hil (Nat.lt_of_lt_of_le h3 H.ow) (by omega) b hb hqb
          · have e1 := hd2 (q - nOwn ps)
            rw [show nOwn ps + (q - nOwn ps) = q by omega] at e1
            rw [e1] at hqb
            obtain ⟨j, _, h5, h6⟩ := hsome _ b hqb
            exact H.ne i j hil (hlt j h5) (fun e => (c2 j h5).2 (e ▸ hi)) b hb h6
      obtain ⟨r1, r2⟩ := finRes_ok (hd' := hd') H hU rs xs _ (nOwn ps) h2 hall (fun q _ => hd2 q) hvr hownlt
      refine ⟨hd', fun i hi hf => by rw [hd1 i hi]; exact H.keep i hi hf, fun i hi b hb => H.kp i hi b (by rw [← hd1 i hi]; exact hb), fun i j hi hj hij b hbi hbj => ?_, finMuts_ok H hU ps 0 h1 hnb (by rw [Nat.zero_add]; exact H.ow) (fun q hq => by rw [Nat.zero_add, hd1 q hq]), r1⟩
      have pos : ∀ i, blk (hd' i) = some b → ∃ m, m < st.ob.length ∧ blk (hd m) = some b ∧ ((i < nOwn ps ∧ m = i) ∨ (nOwn ps ≤ i ∧ nOwn ps ≤ m ∧ atn none (resIx st.ob rs xs) (i - nOwn ps) = some m)) := fun i hb => by
        rcases Nat.lt_or_ge i (nOwn ps) with h3 | h3
        · exact ⟨i, Nat.lt_of_lt_of_le h3 H.ow, by rw [← hd1 i h3]; exact hb, .inl ⟨h3, rfl⟩⟩
        · have e1 := hd2 (i - nOwn ps)
          rw [show nOwn ps + (i - nOwn ps) = i by omega] at e1
          rw [e1] at hb
          obtain ⟨m, h4, h5, h6⟩ := hsome _ b hb
          exact ⟨m, hlt m h5, h6, .inr ⟨h3, hownlt m h5, h4⟩⟩
      obtain ⟨m, m1, m2, m3⟩ := pos i hbi
      obtain ⟨k, k1, k2, k3⟩ := pos j hbj
      refine H.ne m k m1 k1 (fun e => hij ?_) b m2 k2
      subst e
      rcases m3 with ⟨a1, a2⟩ | ⟨a1, a2, a3⟩ <;> rcases k3 with ⟨b1, b2⟩ | ⟨b1, b2, b3⟩
      · omega
      · omega
      · omega
      · have := ix_inj (by rw [resIx_some]; exact c1) _ _ _ a3 b3
        omega
    · cases h
  · cases h
theorem args_nb {U : Nat → Prop} : ∀ (ps : List PM) (d : Ds (ps.map PM.ty)) (vs : List Value) (n : Nat), ArgsOk ρ U w hd0 ps d vs n → ∀ p ∈ ps, ∀ e fs, p ≠ .nbx e fs
  | [], _, _, _, _, p, hp, _, _ => by cases hp
  | q :: ps, d, [], n, h, _, _, _, _ => by cases q <;> exact h.elim
  | .nbx e fs :: ps, d, v :: vs, n, h, _, _, _, _ => h.elim
  | .val t :: ps, d, v :: vs, n, h, p, hp, e, fs => by
    rcases List.mem_cons.1 hp with rfl | hp
    · simp
    · exact args_nb ps d.2 vs n h.2 p hp e fs
  | .own e' t :: ps, d, v :: vs, n, h, p, hp, e, fs => by
    rcases List.mem_cons.1 hp with rfl | hp
    · simp
    · exact args_nb ps d.2 vs _ h.2.2 p hp e fs
  | .cutp e' t :: ps, d, v :: vs, n, h, p, hp, e, fs => by
    rcases List.mem_cons.1 hp with rfl | hp
    · simp
    · exact args_nb ps d.2 vs _ h.2.2 p hp e fs
  | .bx e' fs' :: ps, d, v :: vs, n, h, p, hp, e, fs => by
    rcases List.mem_cons.1 hp with rfl | hp
    · simp
    · exact args_nb ps d.2 vs _ h.2.2 p hp e fs
theorem boxOk_tr {U U' : Nat → Prop} {hd' : Nat → Value} {B : Nat} {e : TypeId} {fs : List Fd} {x : (fsT fs).den} {n : Nat} (k : Tr U w U' w) (h : BoxOk ρ U w hd' B e fs x n) : BoxOk ρ U' w hd' B e fs x n :=
  ⟨RO.tr k (fun _ _ => rfl) (fun _ _ => rfl) h.1, fun q hq => RO.tr k (fun _ _ => rfl) (fun _ _ => rfl) (h.2 q hq)⟩
theorem muts_tr {U U' : Nat → Prop} {hd' : Nat → Value} (k : Tr U w U' w) : ∀ (ps : List PM) (d : Ds (muts ps)) (n : Nat), MutsOk ρ U w hd' ps d n → MutsOk ρ U' w hd' ps d n
  | [], _, _, _ => trivial
  | .val _ :: ps, d, n, h => muts_tr k ps d n h
  | .nbx _ fs :: ps, d, n, h => muts_tr k ps d (n + (1 + fsN fs)) h
  | .own e t :: ps, d, n, h => ⟨RO.tr k (fun _ _ => rfl) (fun _ _ => rfl) h.1, muts_tr k ps d.2 _ h.2⟩
  | .cutp e t :: ps, d, n, h => ⟨RO.tr k (fun _ _ => rfl) (fun _ _ => rfl) h.1, muts_tr k ps d.2 _ h.2⟩
  | .bx e fs :: ps, d, n, h => ⟨boxOk_tr k h.1, muts_tr k ps d.2 _ h.2⟩
theorem rets_tr {U U' : Nat → Prop} {hd' : Nat → Value} {B : Nat} (k : Tr U w U' w) : ∀ (rs : List PM) (d : Ds (rs.map PM.ty)) (vs : List Value) (n : Nat), RetsOk ρ U w hd' B rs d vs n → RetsOk ρ U' w hd' B rs d vs n
  | [], _, [], _, _ => trivial
  | [], _, _ :: _, _, h => h.elim
  | q :: rs, d, [], n, h => by cases q <;> exact h.elim
  | .bx _ _ :: rs, d, v :: vs, n, h => h.elim
  | .val t :: rs, d, v :: vs, n, h => ⟨IRd.tr h.1 k, rets_tr k rs d.2 vs n h.2⟩
  | .own e t :: rs, d, v :: vs, n, h => ⟨h.1, RO.tr k (fun _ _ => rfl) (fun _ _ => rfl) h.2.1, rets_tr k rs d.2 vs _ h.2.2⟩
  | .cutp e t :: rs, d, v :: vs, n, h => ⟨cut_ra h.1 rfl, RO.tr k (fun _ _ => rfl) (fun _ _ => rfl) h.2.1, rets_tr k rs d.2 vs _ h.2.2⟩
  | .nbx e fs :: rs, d, v :: vs, n, h => by
    obtain ⟨d1, d2⟩ := d
    refine ⟨?_, rets_tr k rs d2 vs _ h.2⟩
    cases d1 with
    | none => exact h.1
    | some x => exact ⟨h.1.1, boxOk_tr k h.1.2⟩
/-- A function of the program does what its plain function says. -/
theorem sound_of (hE : EnvOk P ρ E) (hm : P.follows .mixedOrders = true) {f : FuncId} {s : Sig} {fn : Func} {c : Code} {res : List Tmp} (hf : P.funcs[f]? = some fn) (hb : fn.body = some c) (hres : fn.results = (res.map ResultVar.tmp).toArray) (hc : chkCode E c = true) (hl : LoopsOk E c) (ho : E.own = nOwn s.ps) (hnt : s.ps.length ≤ fn.ntmps)
    (h : ∀ d, s.pre d = true → runF E fn.ntmps c res s.ps s.rs d = some (s.fn d)) (hF : ∀ i, E.fx i = fxP s.ps i := by intro i; rfl) (hfresh : s.fresh = false := by rfl) : Sound P ρ f s := by
  intro d hpre w U0 U1 hd0 vs hu hu1 hfr hap ha
  have hn := h d hpre
  have H := start_rel hu hap ha fn.ntmps hnt
  refine calls_of_wp hf hb (exec_sound hE ho hF hm c hc hl (Q := bodyPost P fn _) (fun c a d v w hp => ?_) H hn (fun e st' a' w' hd' hk H' => ?_))
  · obtain ⟨h1, h2⟩ := hp
    exact ⟨by cases d <;> exact h1, h2⟩
  · have main : fin E.own res s.ps s.rs st' = some (s.fn d) → bodyPost P fn (fun e w' => ∃ rvs hd', e = .returned (oneV rvs) ∧ Ag (Us (fun _ => False) (nOwn s.ps) hd0) w w' ∧ (∀ i, i < nOwn s.ps → fxP s.ps i = true → hd' i = hd0 i) ∧ (∀ i, i < nOwn s.ps → ∀ b, blk (hd' i) = some b → blk (hd0 i) = some b ∨ w.heap.size ≤ b) ∧ Apart (nOwn s.ps + nOwn s.rs) hd' ∧
        MutsOk ρ (Us U1 (nOwn s.ps + nOwn s.rs) hd') w' hd' s.ps (dl (s.fn d)) 0 ∧ RetsOk ρ (Us U1 (nOwn s.ps + nOwn s.rs) hd') w' hd' w.heap.size s.rs (dr (s.fn d)) rvs (nOwn s.ps)) .ret a' w' := by
      intro hfin
      rw [ho] at hfin
      obtain ⟨hd2, r1, r2, r3, r4, r5⟩ := fin_ok H' (args_nb s.ps d vs 0 ha) hfin
      have k : Tr (Us U0 (nOwn s.ps + nOwn s.rs) hd2) w' (Us U1 (nOwn s.ps + nOwn s.rs) hd2) w' := Tr.of (V := fun _ => False) (Ag.refl _ _) (fun _ _ h => h.elim) (fun b _ hb => hb.imp (hfr hfresh b) id)
      exact ⟨H'.df, _, results_run hres a'.tmps P w', _, hd2, rfl, H'.ag, r1, r2, r3, muts_tr k _ _ _ r4, rets_tr k _ _ _ _ r5⟩
    cases e with
    | ex i => cases hk
    | rt => exact main hk
    | nm =>
      simp only at hk
      split at hk
      · exact main hk
      · cases hk
end
end Go.Proofs.Ythbojpaghbbnnaa.Z
