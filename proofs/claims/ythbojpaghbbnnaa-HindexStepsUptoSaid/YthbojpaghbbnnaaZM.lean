/- A function of the program does what its plain function says, if the small machine says so. Plain lemmas; no condition. -/
import Derived.Test.YthbojpaghbbnnaaZL
namespace Go.Proofs.Ythbojpaghbbnnaa.Z
open Go Go.RowKit
set_option linter.unusedVariables false
set_option linter.unusedSimpArgs false
section
variable {P : Program} {ρ : Obs} {w : World} {hd : Nat → Value} {w0 : World} {U0 : Nat → Prop} {own : Nat} {hd0 : Nat → Value} {st : St} {a : Act} {E : Env}
theorem start_ok {U : Nat → Prop} : ∀ (ps : List PM) (d : Ds (ps.map PM.ty)) (vs : List Value) (n : Nat), ArgsOk ρ U w hd0 ps d vs n → All2 (RA ρ U w hd0) (startTm ps d n) vs ∧ (∀ x ∈ startTm ps d n, ∀ j ∈ x.refs, j < n + nOwn ps) ∧ (startOb ps d).length = nOwn ps ∧
    (∀ q, q < nOwn ps → RO ρ U w hd0 0 (atn .gone (startOb ps d) q) (hd0 (n + q)) ∧ (atn .gone (startOb ps d) q).refs = []) ∧ vs.length = ps.length
  | [], d, [], n, _ => by
    refine ⟨trivial, fun x hx => ?_, rfl, fun q hq => ?_, rfl⟩
    · simp [startTm] at hx
    · simp [nOwn] at hq
  | [], d, _ :: _, n, h => h.elim
  | .val t :: ps, d, [], n, h => h.elim
  | .own e t :: ps, d, [], n, h => h.elim
  | .val t :: ps, d, v :: vs, n, h => by
    obtain ⟨h1, h2, h3, h4, h5⟩ := start_ok ps d.2 vs n h.2
    refine ⟨⟨h.1, h1⟩, fun x hx => ?_, h3, h4, by simp [h5]⟩
    rcases List.mem_cons.1 hx with rfl | hx
    · intro j hj; simp [A.refs] at hj
    · exact h2 x hx
  | .own e t :: ps, d, v :: vs, n, h => by
    obtain ⟨g1, g2, g3⟩ := h
    obtain ⟨h1, h2, h3, h4, h5⟩ := start_ok ps d.2 vs (n + 1) g3
    refine ⟨⟨g1, h1⟩, fun x hx => ?_, by simp [startOb, nOwn, h3], fun q hq => ?_, by simp [h5]⟩
    · rcases List.mem_cons.1 hx with rfl | hx
      · intro j hj
        simp only [A.refs, List.mem_singleton] at hj
        simp only [nOwn]
        omega
      · intro j hj
        have := h2 x hx j hj
        simp only [nOwn]
        omega
    · cases q with
      | zero => exact ⟨by rw [Nat.add_zero, ← g1]; exact g2, rfl⟩
      | succ q =>
        have := h4 q (by simp [nOwn] at hq; omega)
        rw [show n + (q + 1) = n + 1 + q by omega]
        exact this
theorem mem_atn {l : List A} {P : A → Prop} (h : ∀ x ∈ l, P x) (hu : P .un) : ∀ i, P (atn .un l i) := fun i => by
  rcases Nat.lt_or_ge i l.length with h1 | h1
  · exact h _ (atn_mem .un l i h1)
  · rw [atn_out _ _ _ h1]; exact hu
theorem atn_rep (n i : Nat) : atn A.un (List.replicate n A.und) i = if i < n then .und else .un := by
  rcases Nat.lt_or_ge i n with h | h
  · rw [if_pos h, atn_getElem _ _ _ (by simpa using h)]; simp
  · rw [if_neg (by omega), atn_out _ _ _ (by simpa using h)]
theorem start_rel {ps : List PM} {d : Ds (ps.map PM.ty)} {vs : List Value} (hu : ∀ b, U0 b → b < w.heap.size ∧ ∀ i, i < nOwn ps → blk (hd0 i) ≠ some b) (hap : Apart (nOwn ps) hd0) (ha : ArgsOk ρ (Us U0 (nOwn ps) hd0) w hd0 ps d vs 0) (nt : Nat) (hnt : ps.length ≤ nt) :
    Rel ρ w U0 (nOwn ps) hd0 (start nt ps d) { tmps := vs.toArray ++ Array.replicate (nt - vs.toArray.size) undef, defers := [] } w hd0 := by
  obtain ⟨h1, h2, h3, h4, h5⟩ := start_ok ps d vs 0 ha
  obtain ⟨g1, g2⟩ := all2_atn h1
  have hl : (startTm ps d 0).length = ps.length := by omega
  refine ⟨by simp [start, hl, h5], rfl, fun i v hv => ?_, fun i hi => ?_, fun i j hi hj => ?_, fun _ _ => rfl, by simp [start, h3], Ag.refl _ _, hu, fun i j hj => ?_, fun i j hj => ?_⟩
  · simp only [start, h3, atn_append]
    simp only [Array.getElem?_append, List.size_toArray] at hv
    by_cases hi : i < vs.length
    · rw [if_pos hi] at hv
      rw [if_pos (by omega)]
      obtain ⟨x, q1, q2⟩ := g2 i (by omega)
      have : v = x := by
        have hv' : vs[i]? = some v := by simpa using hv
        rw [hv'] at q1
        injection q1
      rw [this]
      exact q2
    · rw [if_neg hi] at hv
      rw [if_neg (by omega), atn_rep]
      split
      · show v = undef
        simp only [Array.getElem?_replicate] at hv
        split at hv
        · injection hv with hv; exact hv.symm
        · cases hv
      · trivial
  · simp only [start, h3] at hi ⊢
    rw [if_pos hi]
    have := (h4 i hi).1
    rwa [Nat.zero_add] at this
  · simp only [start, h3] at hi hj
    exact fun hij => hap i j hi hj hij
  · simp only [start, h3, atn_append] at hj ⊢
    split at hj
    · have := mem_atn (P := fun x => ∀ j ∈ x.refs, j < 0 + nOwn ps) h2 (by simp [A.refs]) i j hj
      omega
    · rw [atn_rep] at hj
      split at hj <;> simp [A.refs] at hj
  · simp only [start, h3] at hj ⊢
    rcases Nat.lt_or_ge i (nOwn ps) with h | h
    · rw [(h4 i h).2] at hj; cases hj
    · rw [atn_out _ _ _ (by rw [h3]; exact h)] at hj
      simp [Ob.refs] at hj
theorem dl_cat : ∀ {a b : List T} (x : Ds a) (y : Ds b), dl (cat x y) = x
  | [], _, x, _ => rfl
  | _ :: _, _, x, y => by simp only [cat, dl, dl_cat]; rfl
theorem dr_cat : ∀ {a b : List T} (x : Ds a) (y : Ds b), dr (cat x y) = y
  | [], _, _, _ => rfl
  | _ :: _, _, x, y => by simp only [cat, dr, dr_cat]
theorem finMuts_ok {U' : Nat → Prop} {hd' : Nat → Value} (H : Rel ρ w0 U0 own hd0 st a w hd) (hU : ∀ b, b < w.heap.size → U' b → Us U0 st.ob.length hd b) : ∀ (ps : List PM) (n : Nat) {d : Ds (muts ps)}, finMuts st.ob ps n = some d → (∀ q, q < nOwn ps → hd' (n + q) = hd (n + q)) → MutsOk ρ U' w hd' ps d n
  | [], _, _, _, _ => trivial
  | .val _ :: ps, n, d, h, hh => finMuts_ok H hU ps n h hh
  | .own e t :: ps, n, d, h, hh => by
    simp only [finMuts] at h
    split at h
    · rename_i e' u l hat
      split at h
      · rename_i hu
        obtain ⟨rfl, rfl⟩ := hu
        split at h
        · rename_i ys hys
          cases h
          have hro := H.ob n (row_lt hat)
          rw [hat] at hro
          have ht : Tr (Us U0 st.ob.length hd) w U' w := Tr.of (V := fun _ => False) (Ag.refl _ _) (fun _ _ h => h.elim) hU
          refine ⟨?_, finMuts_ok H hU ps (n + 1) hys (fun q hq => by rw [show n + 1 + q = n + (q + 1) by omega]; exact hh (q + 1) (by simp [nOwn]; omega))⟩
          have := hh 0 (by simp [nOwn])
          rw [Nat.add_zero] at this
          rw [this]
          exact ro_row hro (fun b _ => ⟨rfl, Nat.zero_le _⟩) (.inl ht)
        · cases h
      · cases h
    · cases h
/-- The headers of the rows that are handed back. -/
def resHd (hd : Nat → Value) : List PM → List A → List Value
  | .own _ _ :: ps, .row i :: xs => hd i :: resHd hd ps xs
  | .own _ _ :: ps, _ :: xs => nilV :: resHd hd ps xs
  | .val _ :: ps, _ :: xs => resHd hd ps xs
  | _, _ => []
theorem finRes_ok {U' : Nat → Prop} {hd' : Nat → Value} (H : Rel ρ w0 U0 own hd0 st a w hd) (hU : ∀ b, b < w.heap.size → U' b → Us U0 st.ob.length hd b) : ∀ (rs : List PM) (xs : List A) (vs : List Value) (n : Nat) {d : Ds (rs.map PM.ty)}, finRes st.ob rs xs = some d → All2 (RA ρ (Us U0 st.ob.length hd) w hd) xs vs → (∀ q, q < (resHd hd rs xs).length → hd' (n + q) = atn nilV (resHd hd rs xs) q) →
    (∀ i ∈ valRows rs xs, ∀ b, blk (hd i) = some b → ¬ U' b) → (∀ i ∈ ownRes rs xs, own ≤ i) → RetsOk ρ U' w hd' w0.heap.size rs d vs n ∧ (resHd hd rs xs).length = nOwn rs
  | [], [], [], n, d, h, _, _, _, _ => ⟨trivial, rfl⟩
  | [], [], _ :: _, _, _, _, h, _, _, _ => h.elim
  | [], _ :: _, _, _, _, h, _, _, _, _ => by simp [finRes] at h
  | .val t :: rs, [], _, _, _, h, _, _, _, _ => by simp [finRes] at h
  | .own e t :: rs, [], _, _, _, h, _, _, _, _ => by simp [finRes] at h
  | p :: rs, x :: xs, [], _, _, _, h, _, _, _ => h.elim
  | .val t :: rs, x :: xs, v :: vs, n, d, h, ha, hh, hv, ho => by
    simp only [finRes] at h
    split at h
    · rename_i y ys hy hys
      cases h
      have e1 : resHd hd (.val t :: rs) (x :: xs) = resHd hd rs xs := by cases x <;> rfl
      rw [e1] at hh ⊢
      obtain ⟨h1, h2⟩ := finRes_ok H hU rs xs vs n hys ha.2 hh (fun i hi => hv i (by cases x <;> simp [valRows, hi])) (fun i hi => ho i (by cases x <;> simpa [ownRes] using hi))
      exact ⟨⟨toV_ird H hy ha.1 hU (fun i hi => hv i (by cases x <;> simp [A.rowOf] at hi <;> subst hi <;> simp [valRows])), h1⟩, h2⟩
    · cases h
  | .own e t :: rs, x :: xs, v :: vs, n, d, h, ha, hh, hv, ho => by
    cases x with
    | nls =>
      simp only [finRes] at h
      split at h
      · rename_i ys hys
        cases h
        have h0 := hh 0 (by simp [resHd])
        simp only [resHd, atn, Nat.add_zero] at h0
        obtain ⟨h1, h2⟩ := finRes_ok H hU rs xs vs (n + 1) hys ha.2 (fun q hq => by
          have := hh (q + 1) (by simpa [resHd] using hq)
          rw [show n + 1 + q = n + (q + 1) by omega]
          simpa [resHd, atn] using this) (fun i hi => hv i (by simpa [valRows] using hi)) (fun i hi => ho i (by simpa [ownRes] using hi))
        have e1 : v = nilV := ha.1
        exact ⟨⟨by rw [h0]; exact e1, by rw [e1]; exact ⟨[], World.ownsRow_nil _ _ _ _, rfl⟩, h1⟩, by simp [resHd, nOwn, h2]⟩
      · cases h
    | row i =>
      simp only [finRes] at h
      split at h
      · rename_i e' u l hat
        split at h
        · rename_i hu
          obtain ⟨rfl, rfl⟩ := hu
          split at h
          · rename_i ys hys
            cases h
            have h0 := hh 0 (by simp [resHd])
            simp only [resHd, atn, Nat.add_zero] at h0
            obtain ⟨h1, h2⟩ := finRes_ok H hU rs xs vs (n + 1) hys ha.2 (fun q hq => by
              have := hh (q + 1) (by simpa [resHd] using hq)
              rw [show n + 1 + q = n + (q + 1) by omega]
              simpa [resHd, atn] using this) (fun j hj => hv j (by simpa [valRows] using hj)) (fun j hj => ho j (by simp [ownRes, hj]))
            have hro := H.ob i (row_lt hat)
            rw [hat, if_neg (by have := ho i (by simp [ownRes]); omega)] at hro
            have ht : Tr (Us U0 st.ob.length hd) w U' w := Tr.of (V := fun _ => False) (Ag.refl _ _) (fun _ _ h => h.elim) hU
            have e1 : v = hd i := ha.1
            exact ⟨⟨by rw [h0]; exact e1, by rw [e1]; exact ro_row hro (fun b hb => ⟨rfl, (hro.blk_ge hb).1⟩) (.inl ht), h1⟩, by simp [resHd, nOwn, h2]⟩
          · cases h
        · cases h
      · cases h
    | _ => simp [finRes] at h
theorem resHd_get : ∀ (rs : List PM) (xs : List A) (q : Nat), q < (resHd hd rs xs).length → atn nilV (resHd hd rs xs) q = nilV ∨ ∃ p, p < (ownRes rs xs).length ∧ atn nilV (resHd hd rs xs) q = hd (atn 0 (ownRes rs xs) p) ∧ ∀ q', q' < (resHd hd rs xs).length → q' ≠ q → atn nilV (resHd hd rs xs) q' = nilV ∨ ∃ p', p' < (ownRes rs xs).length ∧ p' ≠ p ∧ atn nilV (resHd hd rs xs) q' = hd (atn 0 (ownRes rs xs) p')
  | [], xs, q, h => by cases xs <;> simp [resHd] at h
  | .val t :: rs, [], q, h => by simp [resHd] at h
  | .own e t :: rs, [], q, h => by simp [resHd] at h
  | .val t :: rs, x :: xs, q, h => by
    have e1 : resHd hd (.val t :: rs) (x :: xs) = resHd hd rs xs := by cases x <;> rfl
    have e2 : ownRes (.val t :: rs) (x :: xs) = ownRes rs xs := by cases x <;> rfl
    rw [e1] at h ⊢
    rw [e2]
    exact resHd_get rs xs q h
  | .own e t :: rs, x :: xs, q, h => by
    have hrec := resHd_get rs xs
    have hex : ∀ q', q' < (resHd hd rs xs).length → atn nilV (resHd hd rs xs) q' = nilV ∨ ∃ p', p' < (ownRes rs xs).length ∧ atn nilV (resHd hd rs xs) q' = hd (atn 0 (ownRes rs xs) p') := fun q' hq' => by
      rcases hrec q' hq' with h | ⟨p, h1, h2, _⟩
      · exact .inl h
      · exact .inr ⟨p, h1, h2⟩
    by_cases hx : ∃ i, x = .row i
    · obtain ⟨i, rfl⟩ := hx
      cases q with
      | zero =>
        refine .inr ⟨0, by simp [ownRes], rfl, fun q' hq' hne => ?_⟩
        cases q' with
        | zero => exact absurd rfl hne
        | succ q' =>
          rcases hex q' (by simpa [resHd] using hq') with h | ⟨p', h1, h2⟩
          · exact .inl h
          · exact .inr ⟨p' + 1, by simpa [ownRes] using h1, by simp, h2⟩
      | succ q =>
        rcases hrec q (by simpa [resHd] using h) with h1 | ⟨p, h1, h2, h3⟩
        · exact .inl h1
        · refine .inr ⟨p + 1, by simpa [ownRes] using h1, h2, fun q' hq' hne => ?_⟩
          cases q' with
          | zero => exact .inr ⟨0, by simp [ownRes], by simp, rfl⟩
          | succ q' =>
            rcases h3 q' (by simpa [resHd] using hq') (by omega) with h | ⟨p', g1, g2, g3⟩
            · exact .inl h
            · exact .inr ⟨p' + 1, by simpa [ownRes] using g1, by omega, g3⟩
    · have e1 : resHd hd (.own e t :: rs) (x :: xs) = nilV :: resHd hd rs xs := by cases x <;> first | rfl | exact absurd ⟨_, rfl⟩ hx
      have e2 : ownRes (.own e t :: rs) (x :: xs) = ownRes rs xs := by cases x <;> first | rfl | exact absurd ⟨_, rfl⟩ hx
      rw [e1] at h ⊢
      rw [e2]
      cases q with
      | zero => exact .inl rfl
      | succ q =>
        rcases hrec q (by simpa using h) with h1 | ⟨p, h1, h2, h3⟩
        · exact .inl h1
        · refine .inr ⟨p, h1, h2, fun q' hq' hne => ?_⟩
          cases q' with
          | zero => exact .inl rfl
          | succ q' =>
            rcases h3 q' (by simpa using hq') (by omega) with h | ⟨p', g1, g2, g3⟩
            · exact .inl h
            · exact .inr ⟨p', g1, g2, g3⟩
theorem results_run {fn : Func} {res : List Tmp} (h : fn.results = (res.map ResultVar.tmp).toArray) (tmps : Array Value) (P : Program) (w : World) : (results fn tmps).run P w = .ok (oneV (res.map fun t => tmps.getD t undef)) w := by
  unfold results
  rw [h, Array.mapM_eq_mapM_toList]
  have := mapM_run (P := P) (f := fun r : ResultVar => (match r with
    | .tmp t => pure (tmps.getD t undef)
    | .cell a t => do loadVar t (← asAddr (tmps.getD a undef)) : Sem Value)) (g := fun r => match r with
    | .tmp t => tmps.getD t undef
    | .cell _ _ => undef) (res.map ResultVar.tmp) w (fun x hx => by
      obtain ⟨t, _, rfl⟩ := List.mem_map.1 hx
      rfl)
  simp only [map_eq_pure_bind, Sem.run_bind]
  erw [this]
  simp only [Result.andThen_ok, Sem.run_pure, List.map_map]
  congr 1
  generalize hl : List.map ((fun r : ResultVar => match r with
    | .tmp t => tmps.getD t undef
    | .cell _ _ => undef) ∘ ResultVar.tmp) res = l
  have hl2 : List.map (fun t => tmps.getD t undef) res = l := by rw [← hl]; rfl
  rw [hl2]
  cases l with
  | nil => rfl
  | cons x l => cases l with
    | nil => rfl
    | cons y l => simp [oneV]
theorem fin_ok (H : Rel ρ w0 U0 own hd0 st a w hd) {res : List Tmp} {ps rs : List PM} (hown : own = nOwn ps) {d : Ds (muts ps ++ rs.map PM.ty)} (h : fin own res ps rs st = some d) :
    ∃ hd', (∀ i, i < nOwn ps → hd' i = hd0 i) ∧ Apart (nOwn ps + nOwn rs) hd' ∧ MutsOk ρ (Us U0 (nOwn ps + nOwn rs) hd') w hd' ps (dl d) 0 ∧ RetsOk ρ (Us U0 (nOwn ps + nOwn rs) hd') w hd' w0.heap.size rs (dr d) (res.map fun t => a.tmps.getD t undef) (nOwn ps) := by
  subst hown
  unfold fin at h
  simp only at h
  split at h
  · rename_i hc
    simp only [Bool.and_eq_true, List.all_eq_true, Bool.not_eq_true', List.contains_eq_mem, decide_eq_false_iff_not] at hc
    obtain ⟨⟨c1, c2⟩, c3⟩ := hc
    split at h
    · rename_i d1 d2 h1 h2
      cases h
      rw [dl_cat, dr_cat]
      generalize hxs : res.map (atn .un st.tm) = xs at h2 c1 c2 c3
      have hall : All2 (RA ρ (Us U0 st.ob.length hd) w hd) xs (res.map fun t => a.tmps.getD t undef) := by
        subst hxs
        clear h2 c1 c2 c3 h1
        induction res with
        | nil => trivial
        | cons t res ih => exact ⟨by simpa [ev, Act.eval] using H.ev_ (.tmp t), ih⟩
      have hlt : ∀ i ∈ ownRes rs xs, i < st.ob.length := fun i hi => by
        have : ∀ (rs : List PM) (xs : List A), (∀ x ∈ xs, ∀ j ∈ x.refs, j < st.ob.length) → ∀ i ∈ ownRes rs xs, i < st.ob.length := by
          intro rs
          induction rs with
          | nil => intro xs _ i hi; cases xs <;> simp [ownRes] at hi
          | cons p rs ih =>
            intro xs hx i hi
            cases xs with
            | nil => cases p <;> simp [ownRes] at hi
            | cons x xs =>
              have hx' : ∀ y ∈ xs, ∀ j ∈ y.refs, j < st.ob.length := fun y hy => hx y (by simp [hy])
              cases p with
              | val t => exact ih xs hx' i (by cases x <;> simpa [ownRes] using hi)
              | own e t =>
                cases x with
                | row j =>
                  simp only [ownRes, List.mem_cons] at hi
                  rcases hi with rfl | hi
                  · exact hx (.row i) (by simp) i (by simp [A.refs])
                  · exact ih xs hx' i hi
                | _ => exact ih xs hx' i (by simpa [ownRes] using hi)
        refine this rs xs (fun x hx j hj => ?_) i hi
        rw [← hxs] at hx
        obtain ⟨t, _, rfl⟩ := List.mem_map.1 hx
        exact H.wt t j hj
      let hd' : Nat → Value := fun i => if i < nOwn ps then hd0 i else atn nilV (resHd hd rs xs) (i - nOwn ps)
      have hd1 : ∀ i, i < nOwn ps → hd' i = hd0 i := fun i hi => by simp only [hd']; rw [if_pos hi]
      have hd2 : ∀ q, hd' (nOwn ps + q) = atn nilV (resHd hd rs xs) q := fun q => by simp only [hd']; rw [if_neg (by omega)]; congr 1; omega
      have hownlt : ∀ i ∈ ownRes rs xs, nOwn ps ≤ i := fun i hi => by have := (c2 i hi).1; simpa using this
      have hU : ∀ b, b < w.heap.size → Us U0 (nOwn ps + nOwn rs) hd' b → Us U0 st.ob.length hd b := by
        rintro b _ (hu | ⟨i, hi, hib⟩)
        · exact .inl hu
        · rcases Nat.lt_or_ge i (nOwn ps) with h3 | h3
          · rw [hd1 i h3, ← H.keep i h3] at hib
            exact .inr ⟨i, Nat.lt_of_lt_of_le h3 H.ow, hib⟩
          · have e1 := hd2 (i - nOwn ps)
            rw [show nOwn ps + (i - nOwn ps) = i by omega] at e1
            rw [e1] at hib
            rcases Nat.lt_or_ge (i - nOwn ps) (resHd hd rs xs).length with h4 | h4
            · rcases resHd_get (hd := hd) rs xs _ h4 with h5 | ⟨p, h5, h6, _⟩
              · rw [h5, blk_nilV] at hib; cases hib
              · rw [h6] at hib; exact .inr ⟨_, hlt _ (atn_mem_of h5), hib⟩
            · rw [atn_out _ _ _ h4, blk_nilV] at hib; cases hib
      have hvr : ∀ i ∈ valRows rs xs, ∀ b, blk (hd i) = some b → ¬ Us U0 (nOwn ps + nOwn rs) hd' b := by
        intro i hi b hb hu
        have hil : i < st.ob.length := by
          rcases Nat.lt_or_ge i st.ob.length with h3 | h3
          · exact h3
          · exfalso
            have : ∀ (rs : List PM) (xs : List A), (∀ x ∈ xs, ∀ j ∈ x.refs, j < st.ob.length) → ∀ i ∈ valRows rs xs, i < st.ob.length := by
              intro rs
              induction rs with
              | nil => intro xs _ i hi; cases xs <;> simp [valRows] at hi
              | cons p rs ih =>
                intro xs hx i hi
                cases xs with
                | nil => cases p <;> simp [valRows] at hi
                | cons x xs =>
                  have hx' : ∀ y ∈ xs, ∀ j ∈ y.refs, j < st.ob.length := fun y hy => hx y (by simp [hy])
                  cases p with
                  | own e t => exact ih xs hx' i (by cases x <;> simpa [valRows] using hi)
                  | val t =>
                    cases x with
                    | row j =>
                      simp only [valRows, List.mem_cons] at hi
                      rcases hi with rfl | hi
                      · exact hx (.row i) (by simp) i (by simp [A.refs])
                      · exact ih xs hx' i hi
                    | cut j n f =>
                      simp only [valRows, List.mem_cons] at hi
                      rcases hi with rfl | hi
                      · exact hx (.cut i n f) (by simp) i (by simp [A.refs])
                      · exact ih xs hx' i hi
                    | _ => exact ih xs hx' i (by simpa [valRows] using hi)
            have := this rs xs (fun x hx j hj => by
              rw [← hxs] at hx
              obtain ⟨t, _, rfl⟩ := List.mem_map.1 hx
              exact H.wt t j hj) i hi
            omega
        have hio : nOwn ps ≤ i := by have := c3 i hi; simpa using this
        rcases hu with hu | ⟨q, hq, hqb⟩
        · exact H.u0n hil hb hu
        · rcases Nat.lt_or_ge q (nOwn ps) with h3 | h3
          · rw [hd1 q h3, ← H.keep q h3] at hqb
            exact H.ne i q hil (Nat.lt_of_lt_of_le h3 H.ow) (by omega) b hb hqb
          · have e1 := hd2 (q - nOwn ps)
            rw [show nOwn ps + (q - nOwn ps) = q by omega] at e1
            rw [e1] at hqb
            rcases Nat.lt_or_ge (q - nOwn ps) (resHd hd rs xs).length with h4 | h4
            · rcases resHd_get (hd := hd) rs xs _ h4 with h5 | ⟨p, h5, h6, _⟩
              · rw [h5, blk_nilV] at hqb; cases hqb
              · rw [h6] at hqb
                exact H.ne i _ hil (hlt _ (atn_mem_of h5)) (fun e => (c2 _ (atn_mem_of h5)).2 (e ▸ hi)) b hb hqb
            · rw [atn_out _ _ _ h4, blk_nilV] at hqb; cases hqb
      obtain ⟨r1, r2⟩ := finRes_ok (hd' := hd') H hU rs xs _ (nOwn ps) h2 hall (fun q _ => hd2 q) hvr hownlt
      refine ⟨hd', hd1, fun i j hi hj hij b hbi hbj => ?_, finMuts_ok H hU ps 0 h1 (fun q hq => by rw [Nat.zero_add, hd1 q hq, H.keep q hq]), r1⟩
      rcases Nat.lt_or_ge i (nOwn ps) with h3 | h3
      · rw [hd1 i h3, ← H.keep i h3] at hbi
        rcases Nat.lt_or_ge j (nOwn ps) with h4 | h4
        · rw [hd1 j h4, ← H.keep j h4] at hbj
          exact H.ne i j (Nat.lt_of_lt_of_le h3 H.ow) (Nat.lt_of_lt_of_le h4 H.ow) hij b hbi hbj
        · have e1 := hd2 (j - nOwn ps)
          rw [show nOwn ps + (j - nOwn ps) = j by omega] at e1
          rw [e1] at hbj
          rcases resHd_get (hd := hd) rs xs (j - nOwn ps) (by omega) with h5 | ⟨p, h5, h6, _⟩
          · rw [h5, blk_nilV] at hbj; cases hbj
          · rw [h6] at hbj
            exact H.ne i _ (Nat.lt_of_lt_of_le h3 H.ow) (hlt _ (atn_mem_of h5)) (by have := hownlt _ (atn_mem_of h5); omega) b hbi hbj
      · have e1 := hd2 (i - nOwn ps)
        rw [show nOwn ps + (i - nOwn ps) = i by omega] at e1
        rw [e1] at hbi
        rcases resHd_get (hd := hd) rs xs (i - nOwn ps) (by omega) with h5 | ⟨p, h5, h6, h7⟩
        · rw [h5, blk_nilV] at hbi; cases hbi
        · rw [h6] at hbi
          rcases Nat.lt_or_ge j (nOwn ps) with h4 | h4
          · rw [hd1 j h4, ← H.keep j h4] at hbj
            exact H.ne _ j (hlt _ (atn_mem_of h5)) (Nat.lt_of_lt_of_le h4 H.ow) (by have := hownlt _ (atn_mem_of h5); omega) b hbi hbj
          · have e2 := hd2 (j - nOwn ps)
            rw [show nOwn ps + (j - nOwn ps) = j by omega] at e2
            rw [e2] at hbj
            rcases h7 (j - nOwn ps) (by omega) (by omega) with h8 | ⟨p', g1, g2, g3⟩
            · rw [h8, blk_nilV] at hbj; cases hbj
            · rw [g3] at hbj
              exact H.ne _ _ (hlt _ (atn_mem_of h5)) (hlt _ (atn_mem_of g1)) (fun e => g2 (nodup_inj c1 _ _ h5 g1 e).symm) b hbi hbj
    · cases h
  · cases h
/-- A function of the program does what its plain function says. -/
theorem sound_of (hE : EnvOk P ρ E) (hm : P.follows .mixedOrders = true) {f : FuncId} {s : Sig} {fn : Func} {c : Code} {res : List Tmp} (hf : P.funcs[f]? = some fn) (hb : fn.body = some c) (hres : fn.results = (res.map ResultVar.tmp).toArray) (hc : chkCode E c = true) (hl : LoopsOk E c) (ho : E.own = nOwn s.ps) (hnt : s.ps.length ≤ fn.ntmps)
    (h : ∀ d, s.pre d = true → runF E fn.ntmps c res s.ps s.rs d = some (s.fn d)) : Sound P ρ f s := by
  intro d hpre w U0 hd0 vs hu hap ha
  have hn := h d hpre
  have H := start_rel hu hap ha fn.ntmps hnt
  refine calls_of_wp hf hb (exec_sound hE ho hm c hc hl (Q := bodyPost P fn _) (fun c a d v w hp => ?_) H hn (fun e st' a' w' hd' hk H' => ?_))
  · obtain ⟨h1, h2⟩ := hp
    exact ⟨by cases d <;> exact h1, h2⟩
  · have main : fin E.own res s.ps s.rs st' = some (s.fn d) → bodyPost P fn (fun e w' => ∃ rvs hd', e = .returned (oneV rvs) ∧ Ag (Us (fun _ => False) (nOwn s.ps) hd0) w w' ∧ (∀ i, i < nOwn s.ps → hd' i = hd0 i) ∧ Apart (nOwn s.ps + nOwn s.rs) hd' ∧
        MutsOk ρ (Us U0 (nOwn s.ps + nOwn s.rs) hd') w' hd' s.ps (dl (s.fn d)) 0 ∧ RetsOk ρ (Us U0 (nOwn s.ps + nOwn s.rs) hd') w' hd' w.heap.size s.rs (dr (s.fn d)) rvs (nOwn s.ps)) .ret a' w' := by
      intro hfin
      rw [ho] at hfin
      obtain ⟨hd2, r1, r2, r3, r4⟩ := fin_ok H' rfl hfin
      exact ⟨H'.df, _, results_run hres a'.tmps P w', _, hd2, rfl, H'.ag, r1, r2, r3, r4⟩
    cases e with
    | ex i => cases hk
    | rt => exact main hk
    | nm =>
      simp only at hk
      split at hk
      · exact main hk
      · cases hk
end
end Go.Proofs.Ythbojpaghbbnnaa.Z
