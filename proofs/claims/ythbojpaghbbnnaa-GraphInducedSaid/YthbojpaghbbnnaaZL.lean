/- The small machine's loops and functions are the real machine's. Plain lemmas; no condition. -/
import Derived.Test.YthbojpaghbbnnaaZI
import Derived.LoopN
namespace Go.Proofs.Ythbojpaghbbnnaa.Z
open Go Go.RowKit
set_option linter.unusedVariables false
set_option linter.unusedSimpArgs false
section
variable {P : Program} {ρ : Obs} {w : World} {hd : Nat → Value} {w0 : World} {U0 : Nat → Prop} {own : Nat} {fx : Nat → Bool} {hd0 : Nat → Value} {st : St} {a : Act} {R : Type} {r : R} {E : Env}
theorem op1_sound (hE : EnvOk P ρ E) (ho : E.own = own) (hF : ∀ i, E.fx i = fx i) (H : Rel ρ w0 U0 own fx hd0 st a w hd) {o : Oper} {k : St → Option R} (h : op1 E o st k = some r) {N : Act → World → Prop} {Q : Exit → Act → World → Prop}
    (hN : ∀ st' a' w' hd', k st' = some r → Rel ρ w0 U0 own fx hd0 st' a' w' hd' → (quietOp E o.op = true → Ag (fun _ => False) w w') → N a' w') : o.wp P a w N Q := by
  unfold op1 at h
  split at h
  · obtain ⟨z, v, h1, h2, h3, h4⟩ := pure_sound hE.tab h H.ev_ H.refs H.hdrs
    exact wp_value (h4 w) (hN _ _ _ _ h1 (H.put h2 h3 _) (fun _ => Ag.refl _ _))
  · split at h
    · rename_i t x hop
      obtain ⟨z, v, h1, h2, h3, h4⟩ := load_sound hE.tab H h
      refine wp_value (v := v) (w' := w) ?_ (hN _ _ _ _ h1 (H.put h2 h3 _) (fun _ => Ag.refl _ _))
      have := h4 w (Ag.refl _ _)
      simp only [execOp, hop, Sem.run_bind, this, Result.andThen_ok, Sem.run_pure]
    · exact eff_sound hE ho hF H h hN
theorem dstOf_eq : ∀ (l : List Oper) (j : Nat), dstOf l j = (l[j]?).bind (·.dst)
  | [], j => by simp [dstOf]
  | o :: l, 0 => by simp [dstOf]
  | o :: l, j + 1 => by simp [dstOf, dstOf_eq l j]
theorem setn_atn {α : Type} (d : α) : ∀ (l : List α) (i : Nat), setn (atn d l i) l i = l
  | [], _ => rfl
  | _ :: _, 0 => rfl
  | x :: l, i + 1 => congrArg (x :: ·) (setn_atn d l i)
theorem guard_ok (H : Rel ρ w0 U0 own fx hd0 st a w hd) {ops : Array Oper} {o : Oper} {k : St → Option R} (h : opG E ops.toList o st k = some r) : (Region.wanted o (yielded ops a.tmps) = true ∧ op1 E o st k = some r) ∨ (Region.wanted o (yielded ops a.tmps) = false ∧ k (St.put st o.dst .und) = some r) := by
  unfold opG at h
  split at h
  · rename_i hg
    exact .inl ⟨by simp [Region.wanted, hg], h⟩
  · rename_i j b hg
    split at h
    · rename_i d hd'
      have hdst : (ops[j]?).bind (·.dst) = some d := by
        have := dstOf_eq ops.toList j
        rw [hd'] at this
        rw [this]
        simp
      split at h
      · rename_i x hat
        have hlt : d < st.tm.length := by
          rcases Nat.lt_or_ge d st.tm.length with q | q
          · exact q
          · rw [atn_out _ _ _ q] at hat; cases hat
        have hlt2 : d < a.tmps.size := by rw [H.sz]; exact hlt
        have hv := H.sl d a.tmps[d] (Array.getElem?_eq_getElem hlt2)
        rw [hat] at hv
        have e1 := IRd.bool hv
        have hy : yielded ops a.tmps j = some x := by
          unfold yielded
          rw [hdst]
          simp [Array.getElem?_eq_getElem hlt2, e1]
        split at h
        · rename_i hxb
          subst hxb
          rw [show (⟨setn (.v .bool x) st.tm d, st.ob⟩ : St) = st from by rw [← hat, setn_atn]] at h
          exact .inl ⟨by simp [Region.wanted, hg, hy], h⟩
        · rename_i hxb
          have hx : x = !b := by cases x <;> cases b <;> first | rfl | exact absurd rfl hxb
          rw [← hx, show (⟨setn (.v .bool x) st.tm d, st.ob⟩ : St) = st from by rw [← hat, setn_atn]] at h
          exact .inr ⟨by simp [Region.wanted, hg, hy, hxb], h⟩
      · rename_i hat
        have hlt : d < st.tm.length := by
          rcases Nat.lt_or_ge d st.tm.length with q | q
          · exact q
          · rw [atn_out _ _ _ q] at hat; cases hat
        have hlt2 : d < a.tmps.size := by rw [H.sz]; exact hlt
        have hv := H.sl d a.tmps[d] (Array.getElem?_eq_getElem hlt2)
        rw [hat] at hv
        have e1 : a.tmps[d] = undef := hv
        have hy : yielded ops a.tmps j = none := by
          unfold yielded
          rw [hdst]
          simp [Array.getElem?_eq_getElem hlt2, e1, undef]
        exact .inr ⟨by simp [Region.wanted, hg, hy], h⟩
      · cases h
    · cases h
theorem opsL_sound (hE : EnvOk P ρ E) (ho : E.own = own) (hF : ∀ i, E.fx i = fx i) {ops : Array Oper} {Q : Exit → Act → World → Prop} {k : St → Option R} : ∀ (l : List Oper) {st : St} {a : Act} {w : World} {hd : Nat → Value}, Rel ρ w0 U0 own fx hd0 st a w hd → opsL E ops.toList l st k = some r →
    (∀ st' a' w' hd', k st' = some r → Rel ρ w0 U0 own fx hd0 st' a' w' hd' → Q .normal a' w') → wpList P ops Q l a w
  | [], st, a, w, hd, H, h, hk => hk _ _ _ _ h H
  | o :: l, st, a, w, hd, H, h, hk => by
    unfold wpList
    rcases guard_ok H h with ⟨h1, h2⟩ | ⟨h1, h2⟩
    · rw [if_pos h1]
      exact .inl (op1_sound hE ho hF H h2 (fun st' a' w' hd' h3 H' _ => opsL_sound hE ho hF l H' h3 hk))
    · rw [if_neg (by rw [h1]; simp)]
      exact opsL_sound hE ho hF l (H.put (x := .und) (v := undef) rfl (by simp [A.refs]) o.dst) h2 hk
/-- May a region be walked in this order? -/
def dAt (E : Env) (ops : Array Oper) (j : Nat) : Bool :=
  match ops[j]? with
  | some o => !quietOp E o.op
  | none => false
def chk (E : Env) (ops : Array Oper) : List Nat → Array Bool → Bool
  | [], l => (Region.ready .any ops l).isEmpty
  | i :: r, l => (match ops[i]? with
    | none => false
    | some o =>
      if isPure o.op = true then Region.free .any ops l i && (Region.ready .any ops l).contains i
      else if isLoad o.op = true then Region.free .any ops l i && (Region.ready .any ops l).contains i && (List.range ops.size).all (fun j => !(dAt E ops j) || l.getD j true || waitsOn .any ops ops.size j i)
      else Region.ready .any ops l == [i]) && chk E ops r (l.setIfInBounds i true)
theorem opsI_sound (hE : EnvOk P ρ E) (ho : E.own = own) (hF : ∀ i, E.fx i = fx i) {ops : Array Oper} {Q : Exit → Act → World → Prop} (hQ : ∀ c a d v w, Q (.panic c) (a.put d v) w → Q (.panic c) a w) (hsel : Region.noSelect ops = true) {k : St → Option R} : ∀ (ord : List Nat) (f : Nat) (l : Array Bool) {st : St} {a : Act} {w : World} {hd : Nat → Value}, ord.length ≤ f → chk E ops ord l = true → Shutd .any ops l →
    Rel ρ w0 U0 own fx hd0 st a w hd → opsI E ops.toList ord st k = some r → (∀ st' a' w' hd', k st' = some r → Rel ρ w0 U0 own fx hd0 st' a' w' hd' → Q .normal a' w') → wpAnyR P .any ops Q (dAt E ops) f l a w
  | [], f, l, st, a, w, hd, _, hc, hs, H, h, hk => doneR (by simpa [chk] using hc) (hk _ _ _ _ h H) f
  | i :: ord, 0, l, st, a, w, hd, hf, _, _, _, _, _ => by simp at hf
  | i :: ord, f + 1, l, st, a, w, hd, hf, hc, hs, H, h, hk => by
    simp only [chk, Bool.and_eq_true] at hc
    obtain ⟨hc1, hc2⟩ := hc
    simp only [opsI] at h
    cases hoi : ops[i]? with
    | none => rw [hoi] at hc1; cases hc1
    | some o =>
      have hoi' : ops.toList[i]? = some o := by simpa using hoi
      rw [hoi'] at h
      simp only at h
      rw [hoi] at hc1
      simp only at hc1
      have hrec : ∀ {st' : St} {a' : Act} {w' : World} {hd' : Nat → Value}, i ∈ Region.ready .any ops l → Rel ρ w0 U0 own fx hd0 st' a' w' hd' → opsI E ops.toList ord st' k = some r → wpAnyR P .any ops Q (dAt E ops) f (l.setIfInBounds i true) a' w' :=
        fun hr H' h' => opsI_sound hE ho hF hQ hsel ord f (l.setIfInBounds i true) (by simpa using hf) hc2 (hs.list hr) H' h' hk
      split at hc1
      · rename_i hp
        simp only [Bool.and_eq_true, List.contains_eq_mem, decide_eq_true_eq] at hc1
        have hfr : ∀ j oj, ops[j]? = some oj → j ≠ i → l.getD j true = false → (∀ e ∈ oj.after, Region.binds .any e = true → e.on ≠ i) → o.apart ops oj = true := Region.free_spec hoi hc1.1
        rcases guard_ok H h with ⟨h1, h2⟩ | ⟨h1, h2⟩
        · unfold op1 at h2
          rw [if_pos hp] at h2
          obtain ⟨z, v, q1, q2, q3, q4⟩ := pure_sound hE.tab h2 H.ev_ H.refs H.hdrs
          exact firstR (c := 0) hoi (Region.noSelect_spec hsel) (fun c a w => hQ c a _ _ w) f l a w hfr hc1.2 hs (.inl (fun w' => ⟨fun _ => q4 w', fun hn => by rw [h1] at hn; cases hn⟩)) (hrec hc1.2 (H.put q2 q3 o.dst) q1)
        · exact firstR (v := undef) (c := 0) hoi (Region.noSelect_spec hsel) (fun c a w => hQ c a _ _ w) f l a w hfr hc1.2 hs (.inl (fun w' => ⟨fun hn => (by rw [h1] at hn; cases hn), fun _ => rfl⟩)) (hrec hc1.2 (H.put (x := .und) (v := undef) rfl (by simp [A.refs]) o.dst) h2)
      · rename_i hp
        split at hc1
        · rename_i hl
          simp only [Bool.and_eq_true, List.contains_eq_mem, decide_eq_true_eq, List.all_eq_true, List.mem_range, Bool.or_eq_true, Bool.not_eq_true'] at hc1
          obtain ⟨⟨c1, c2⟩, c3⟩ := hc1
          have hfr : ∀ j oj, ops[j]? = some oj → j ≠ i → l.getD j true = false → (∀ e ∈ oj.after, Region.binds .any e = true → e.on ≠ i) → o.apart ops oj = true := Region.free_spec hoi c1
          have hw : ∀ j oj, ops[j]? = some oj → dAt E ops j = true → l.getD j true = false → waitsOn .any ops ops.size j i = true := fun j oj hj hd hun => by
            rcases c3 j (Array.getElem?_eq_some_iff.1 hj).1 with (h | h) | h
            · rw [hd] at h; cases h
            · rw [hun] at h; cases h
            · exact h
          rcases guard_ok H h with ⟨h1, h2⟩ | ⟨h1, h2⟩
          · unfold op1 at h2
            rw [if_neg hp] at h2
            split at h2
            · rename_i t x hop
              obtain ⟨z, v, q1, q2, q3, q4⟩ := load_sound hE.tab H h2
              refine firstR (v := v) (c := ops.size) hoi (Region.noSelect_spec hsel) (fun c a w => hQ c a _ _ w) f l a w hfr c2 hs (.inr ⟨.inl ⟨h1, fun w' hw' => ?_⟩, hw⟩) (hrec c2 (H.put q2 q3 o.dst) q1)
              have := q4 w' hw'
              simp only [execOp, hop, Sem.run_bind, this, Result.andThen_ok, Sem.run_pure]
            · rename_i hno
              unfold isLoad at hl
              split at hl
              · rename_i t x hop
                exact absurd hop (hno t x)
              · cases hl
          · exact firstR (v := undef) (c := 0) hoi (Region.noSelect_spec hsel) (fun c a w => hQ c a _ _ w) f l a w hfr c2 hs (.inl (fun w' => ⟨fun hn => (by rw [h1] at hn; cases hn), fun _ => rfl⟩)) (hrec c2 (H.put (x := .und) (v := undef) rfl (by simp [A.refs]) o.dst) h2)
        · have hr : Region.ready .any ops l = [i] := by simpa using hc1
          have hmem : i ∈ Region.ready .any ops l := by rw [hr]; simp
          refine oneR hoi hr ?_
          unfold wpOp
          rw [hoi]
          simp only
          rcases guard_ok H h with ⟨h1, h2⟩ | ⟨h1, h2⟩
          · rw [if_pos h1]
            refine .inl (op1_sound hE ho hF H h2 (fun st' a' w' hd' q1 H' q3 => ⟨fun hD => q3 ?_, hrec hmem H' q1⟩))
            simp only [dAt, hoi] at hD
            simpa using hD
          · rw [if_neg (by rw [h1]; simp)]
            exact ⟨fun _ => Ag.refl _ _, hrec hmem (H.put (x := .und) (v := undef) rfl (by simp [A.refs]) o.dst) h2⟩
end
end Go.Proofs.Ythbojpaghbbnnaa.Z
namespace Go.Proofs.Ythbojpaghbbnnaa.Z
open Go Go.RowKit
set_option linter.unusedVariables false
set_option linter.unusedSimpArgs false
section
variable {P : Program} {ρ : Obs} {w : World} {hd : Nat → Value} {w0 : World} {U0 : Nat → Prop} {own : Nat} {fx : Nat → Bool} {hd0 : Nat → Value} {st : St} {a : Act} {R : Type} {r : R} {E : Env}
/-- A temporary is looked at in another way. -/
theorem Rel.reslot (H : Rel ρ w0 U0 own fx hd0 st a w hd) {d : Nat} {x : A} (hx : ∀ v, a.tmps[d]? = some v → RA ρ (Us U0 st.ob.length hd) w hd x v) (hr : ∀ j ∈ x.refs, j < st.ob.length) : Rel ρ w0 U0 own fx hd0 ⟨setn x st.tm d, st.ob⟩ a w hd := by
  refine ⟨by rw [length_setn]; exact H.sz, H.df, fun i v hv => ?_, H.ob, H.ne, H.keep, H.kp, H.ow, H.ag, H.u0, fun i j hj => ?_, H.wo⟩
  · rw [atn_setn]
    split
    · rename_i h
      rw [← h.1] at hv
      exact hx v hv
    · exact H.sl i v hv
  · rw [atn_setn] at hj
    split at hj
    · exact hr j hj
    · exact H.wt i j hj
theorem Rel.slot (H : Rel ρ w0 U0 own fx hd0 st a w hd) {d : Nat} {v : Value} (hv : a.tmps[d]? = some v) : RA ρ (Us U0 st.ob.length hd) w hd (atn .un st.tm d) v := H.sl d v hv
theorem shape_ok (own : Nat) : ∀ (l : List (Nat × Option (Sum (TypeId × T) T))) {st : St} {hd : Nat → Value}, Rel ρ w0 U0 own fx hd0 st a w hd → ∃ hd', Rel ρ w0 U0 own fx hd0 (shape own st l) a w hd'
  | [], st, hd, H => ⟨hd, H⟩
  | (d, none) :: l, st, hd, H => shape_ok own l H
  | (d, some (.inl (e, t))) :: l, st, hd, H => by
    unfold shape
    split
    · rename_i hat
      have hb : ∀ b, blk nilV = some b → w.heap.size ≤ b := fun b hb => by rw [blk_nilV] at hb; cases hb
      have H1 := H.new (Ag.refl _ _) (o := .row e t []) (v := nilV) (upd hd st.ob.length nilV) (fun i hi => upd_ne (by omega)) (upd_same _ _ _) (by simp [Ob.refs]) hb ⟨[], World.ownsRow_nil _ _ _ _, rfl⟩
      have H2 := H1.reslot (d := d) (x := .row st.ob.length) (fun v hv => by
        have := H.sl d v hv
        rw [hat] at this
        show v = _
        rw [upd_same]
        exact this) (by simp [A.refs])
      exact shape_ok own l H2
    · exact shape_ok own l H
  | (d, some (.inr t)) :: l, st, hd, H => by
    unfold shape
    split
    · rename_i hat
      refine shape_ok own l (H.reslot (d := d) (x := .v (.list t) []) (fun v hv => ?_) (by simp [A.refs]))
      have := H.sl d v hv
      rw [hat] at this
      exact ⟨[.slice none 0 0], this, none, 0, [], rfl, Nat.zero_le _, Nat.le_refl _, rfl, fun h => absurd h (by simp)⟩
    · rename_i hat
      refine shape_ok own l (H.reslot (d := d) (fun v hv => ?_) ?_)
      · have := H.sl d v hv
        rw [hat] at this
        split
        · exact ⟨[.pointer none], this, _, rfl, rfl⟩
        · exact ⟨[.pointer none], this, _, rfl, rfl⟩
        · exact this
      · split <;> simp [A.refs]
    · split
      · rename_i hth
        obtain ⟨hd', H', _⟩ := H.thaw hth (H.wt d)
        exact shape_ok own l H'
      · exact shape_ok own l H
theorem only_atn (h : List (Nat × Option (Sum (TypeId × T) T))) : ∀ (l : List A) (n i : Nat), atn .un (only h n l) i = atn .un l i ∨ atn .un (only h n l) i = .un
  | [], _, _ => .inl rfl
  | x :: l, n, 0 => by
    simp only [only, atn]
    split
    · exact .inl rfl
    · exact .inr rfl
  | x :: l, n, i + 1 => only_atn h l (n + 1) i
theorem only_len (h : List (Nat × Option (Sum (TypeId × T) T))) : ∀ (l : List A) (n : Nat), (only h n l).length = l.length
  | [], _ => rfl
  | x :: l, n => by simp [only, only_len h l]
/-- What is not kept is no longer known. -/
theorem Rel.only (H : Rel ρ w0 U0 own fx hd0 st a w hd) (h : List (Nat × Option (Sum (TypeId × T) T))) : Rel ρ w0 U0 own fx hd0 ⟨only h 0 st.tm, st.ob⟩ a w hd := by
  refine ⟨by rw [only_len]; exact H.sz, H.df, fun i v hv => ?_, H.ob, H.ne, H.keep, H.kp, H.ow, H.ag, H.u0, fun i j hj => ?_, H.wo⟩
  · rcases only_atn h st.tm 0 i with e | e <;> simp only <;> rw [e]
    · exact H.sl i v hv
    · trivial
  · simp only at hj
    rcases only_atn h st.tm 0 i with e | e <;> rw [e] at hj
    · exact H.wt i j hj
    · simp [A.refs] at hj
theorem pos_atn : ∀ {l : List Nat} {i : Nat}, i ∈ l → atn 0 l (posOf i l) = i ∧ posOf i l < l.length
  | x :: l, i, h => by
    simp only [posOf]
    split
    · rename_i e; exact ⟨e, by simp⟩
    · rename_i e
      have hi : i ∈ l := by
        rcases List.mem_cons.1 h with h | h
        · exact absurd h.symm e
        · exact h
      obtain ⟨h1, h2⟩ := pos_atn hi
      exact ⟨h1, by simpa using h2⟩
theorem ren_refs (f : Nat → Nat) : ∀ {x : A} {j : Nat}, j ∈ (A.ren f x).refs → ∃ i ∈ x.refs, f i = j
  | .row i, j, h => ⟨i, by simp [A.refs], by simpa [A.ren, A.refs, eq_comm] using h⟩
  | .cut i _ _, j, h => ⟨i, by simp [A.refs], by simpa [A.ren, A.refs, eq_comm] using h⟩
  | .adr i _ _ _ _, j, h => ⟨i, by simp [A.refs], by simpa [A.ren, A.refs, eq_comm] using h⟩
  | .box i _, j, h => ⟨i, by simp [A.refs], by simpa [A.ren, A.refs, eq_comm] using h⟩
  | .tcons a b, j, h => by
    simp only [A.ren, A.refs, List.mem_append] at h
    rcases h with h | h
    · obtain ⟨i, h1, h2⟩ := ren_refs f h; exact ⟨i, by simp [A.refs, h1], h2⟩
    · obtain ⟨i, h1, h2⟩ := ren_refs f h; exact ⟨i, by simp [A.refs, h1], h2⟩
  | .str a, j, h => ren_refs f (x := a) h
  | .un, _, h => by simp [A.ren, A.refs] at h
  | .und, _, h => by simp [A.ren, A.refs] at h
  | .v _ _, _, h => by simp [A.ren, A.refs] at h
  | .nls, _, h => by simp [A.ren, A.refs] at h
  | .nlp, _, h => by simp [A.ren, A.refs] at h
  | .ref _ _, _, h => by simp [A.ren, A.refs] at h
  | .tnil, _, h => by simp [A.ren, A.refs] at h
theorem RA.ren {U U' : Nat → Prop} {hd hd' : Nat → Value} (f : Nat → Nat) (k : Tr U w U' w) : ∀ {x : A} {v : Value}, (∀ i ∈ x.refs, hd' (f i) = hd i) → RA ρ U w hd x v → RA ρ U' w hd' (A.ren f x) v
  | .row i, v, hr, h => by
    have := hr i (by simp [A.refs])
    simp only [RA, A.ren] at h ⊢
    rw [this]
    exact h
  | .cut i n fl, v, hr, h => by
    have := hr i (by simp [A.refs])
    simp only [RA, A.ren] at h ⊢
    rw [this]
    exact h
  | .adr i _ _ _ _, v, hr, h => by
    have := hr i (by simp [A.refs])
    simp only [RA, A.ren] at h ⊢
    rw [this]
    exact h
  | .box i _, v, hr, h => by
    have := hr i (by simp [A.refs])
    simp only [RA, A.ren] at h ⊢
    rw [this]
    exact h
  | .tcons a b, _, hr, ⟨x, xs, e, h1, h2⟩ => ⟨x, xs, e, RA.ren f k (fun i hi => hr i (by simp [A.refs, hi])) h1, RA.ren f k (fun i hi => hr i (by simp [A.refs, hi])) h2⟩
  | .str a, _, hr, ⟨xs, e, h1, h2⟩ => ⟨xs, e, h1, RA.ren f k (x := a) hr h2⟩
  | .un, _, _, _ => trivial
  | .und, _, _, h => h
  | .v _ _, _, _, h => IRd.tr h k
  | .nls, _, _, h => h
  | .nlp, _, _, h => h
  | .ref _ _, _, _, ⟨b, off, cs, e, h1, h2⟩ => ⟨b, off, cs, e, ICs.tr k h1, fun w'' hw => h2 w'' (k w'' hw)⟩
  | .tnil, _, _, h => h
theorem ren_un (f : Nat → Nat) : A.ren f .un = .un := rfl
theorem atn_map {α β : Type} (d : α) (d' : β) (f : α → β) : ∀ (l : List α) (i : Nat), i < l.length → atn d' (l.map f) i = f (atn d l i)
  | [], i, h => by simp at h
  | _ :: _, 0, _ => rfl
  | _ :: l, i + 1, h => atn_map d d' f l i (by simpa using h)
/-- The objects get other numbers; those that nobody names are forgotten. -/
theorem Rel.renum (H : Rel ρ w0 U0 own fx hd0 st a w hd) {l : List Nat} (hn : nodupB l = true) (hl : ∀ i ∈ l, i < st.ob.length) (ho : ∀ i, i < own → i < l.length ∧ atn 0 l i = i) (hro : ∀ i ∈ l, ∀ j ∈ (atn .gone st.ob i).refs, j ∈ l) (hrt : ∀ i, ∀ j ∈ (atn .un st.tm i).refs, j ∈ l) :
    Rel ρ w0 U0 own fx hd0 ⟨mapn (A.ren (fun i => posOf i l)) st.tm, l.map (fun i => Ob.ren (fun i => posOf i l) (atn .gone st.ob i))⟩ a w (fun i => hd (atn 0 l i)) := by
  have hhd : ∀ j ∈ l, (fun i => hd (atn 0 l i)) (posOf j l) = hd j := fun j hj => by simp only; rw [(pos_atn hj).1]
  have hU : ∀ b, b < w.heap.size → Us U0 l.length (fun i => hd (atn 0 l i)) b → Us U0 st.ob.length hd b := by
    rintro b _ (hu | ⟨i, hi, hib⟩)
    · exact .inl hu
    · exact .inr ⟨_, hl _ (atn_mem 0 l i hi), hib⟩
  have ht : Tr (Us U0 st.ob.length hd) w (Us U0 l.length (fun i => hd (atn 0 l i))) w := Tr.of (V := fun _ => False) (Ag.refl _ _) (fun _ _ h => h.elim) hU
  have hat : ∀ i, i < l.length → atn Ob.gone (l.map (fun i => Ob.ren (fun i => posOf i l) (atn .gone st.ob i))) i = Ob.ren (fun i => posOf i l) (atn .gone st.ob (atn 0 l i)) := fun i hi => atn_map 0 Ob.gone _ l i hi
  refine ⟨by rw [length_mapn]; exact H.sz, H.df, fun i v hv => ?_, fun i hi => ?_, fun i j hi hj hij b hbi => ?_, fun i hi hf => ?_, fun i hi b hib => ?_, ?_, H.ag, H.u0, fun i j hj => ?_, fun i j hj => ?_⟩
  · simp only [List.length_map]
    rw [atn_mapn _ _ (ren_un _)]
    exact RA.ren _ ht (fun j hj => hhd j (hrt i j hj)) (H.sl i v hv)
  · simp only [List.length_map] at hi ⊢
    rw [hat i hi]
    have hm := hl _ (atn_mem 0 l i hi)
    have h1 := H.ob _ hm
    have hro' := hro _ (atn_mem 0 l i hi)
    have hB : (if i < own then 0 else w0.heap.size) = (if atn 0 l i < own then 0 else w0.heap.size) := by
      by_cases hio : i < own
      · rw [if_pos hio, (ho i hio).2, if_pos hio]
      · have : ¬ atn 0 l i < own := fun hc => hio (by
          have := (ho _ hc)
          have := nodup_inj hn (atn 0 l i) i this.1 hi (by rw [this.2])
          omega)
        rw [if_neg hio, if_neg this]
    rw [hB]
    cases hob : atn Ob.gone st.ob (atn 0 l i) with
    | row e t xs =>
      rw [hob] at h1
      exact ro_row h1 (fun b hb => ⟨rfl, (h1.blk_ge hb).1⟩) (.inl ht)
    | cells e cl =>
      rw [hob] at h1 hro'
      obtain ⟨b, vs, q1, q2, q3, q4, q5⟩ := h1
      refine ⟨b, vs, q1, q2, q3, by rw [length_mapn]; exact q4, fun q hq => ?_⟩
      rw [length_mapn] at hq
      obtain ⟨x, s1, s2, s3⟩ := q5 q hq
      refine ⟨x, s1, s2, ?_⟩
      rw [atn_mapn _ _ (ren_un _)]
      exact RA.ren _ ht (fun j hj => hhd j (hro' j (List.mem_flatMap.2 ⟨_, atn_mem _ _ _ hq, hj⟩))) s3
    | gone => rw [hob] at h1; exact h1
  · simp only [List.length_map] at hi hj
    exact H.ne _ _ (hl _ (atn_mem 0 l i hi)) (hl _ (atn_mem 0 l j hj)) (fun e => hij (nodup_inj hn i j hi hj e)) b hbi
  · show hd (atn 0 l i) = hd0 i
    rw [(ho i hi).2]
    exact H.keep i hi hf
  · simp only [(ho i hi).2] at hib
    exact H.kp i hi b hib
  · simp only [List.length_map]
    rcases Nat.eq_zero_or_pos own with h0 | h0
    · omega
    · have := (ho (own - 1) (by omega)).1
      omega
  · simp only [List.length_map]
    rw [atn_mapn _ _ (ren_un _)] at hj
    obtain ⟨q, h1, rfl⟩ := ren_refs _ hj
    exact (pos_atn (hrt i q h1)).2
  · simp only [List.length_map]
    rcases Nat.lt_or_ge i l.length with hi | hi
    · rw [hat i hi] at hj
      have hro' := hro _ (atn_mem 0 l i hi)
      cases hob : atn Ob.gone st.ob (atn 0 l i) with
      | row e t xs => rw [hob] at hj; simp [Ob.ren, Ob.refs] at hj
      | gone => rw [hob] at hj; simp [Ob.ren, Ob.refs] at hj
      | cells e cl =>
        rw [hob] at hj hro'
        simp only [Ob.ren, Ob.refs, List.mem_flatMap] at hj
        obtain ⟨y, hy, hj⟩ := hj
        obtain ⟨x, hx, rfl⟩ := mapn_mem _ hy
        obtain ⟨q, h1, rfl⟩ := ren_refs _ hj
        exact (pos_atn (hro' q (List.mem_flatMap.2 ⟨x, hx, h1⟩))).2
    · rw [atn_out _ _ _ (by rw [List.length_map]; exact hi)] at hj
      simp [Ob.refs] at hj
theorem canon_ok (H : Rel ρ w0 U0 own fx hd0 st a w hd) {h : Head} {k : St → Option R} (hc : canon own h st k = some r) : ∃ st' hd', k st' = some r ∧ Rel ρ w0 U0 own fx hd0 st' a w hd' := by
  obtain ⟨hd1, H1⟩ := shape_ok own h.keep H
  have H2 := H1.only h.keep
  unfold canon at hc
  simp only at hc
  split at hc
  · rename_i hcond
    simp only [Bool.and_eq_true, List.all_eq_true, decide_eq_true_eq, List.mem_range, beq_iff_eq, List.mem_flatMap, List.contains_eq_mem, forall_exists_index, and_imp] at hcond
    obtain ⟨⟨⟨⟨c1, c2⟩, c3⟩, c4⟩, c5⟩ := hcond
    refine ⟨_, _, hc, H2.renum c1 c2 (fun i hi => c3 i hi) (fun i hi j hj => c4 j i hi hj) (fun i j hj => ?_)⟩
    rcases Nat.lt_or_ge i (only h.keep 0 (shape own st h.keep).tm).length with hi | hi
    · exact c5 j _ (atn_mem .un _ i hi) hj
    · rw [atn_out _ _ _ hi] at hj
      simp [A.refs] at hj
  · cases hc
/-- May the code's regions be walked in the given orders? -/
def chkCode (E : Env) : Code → Bool
  | .region id o dr => if dr = true then Region.noSelect o && decide ((E.ord id).length ≤ o.size) && chk E o (E.ord id) (Array.replicate o.size false) else true
  | .seq a b => chkCode E a && chkCode E b
  | .cond _ a b => chkCode E a && chkCode E b
  | .block _ a => chkCode E a
  | .loop a => chkCode E a
  | _ => true
def toExit : Ex → Exit
  | .nm => .normal
  | .ex i => .exit i
  | .rt => .ret
theorem shut0 (ops : Array Oper) : Shutd .any ops (Array.replicate ops.size false) := fun k o ho hk => by
  have hlt := (Array.getElem?_eq_some_iff.1 ho).1
  simp [Array.getD, hlt] at hk
theorem exec_sound (hE : EnvOk P ρ E) (ho : E.own = own) (hF : ∀ i, E.fx i = fx i) (hm : P.follows .mixedOrders = true) : ∀ (c : Code), chkCode E c = true → LoopsOk E c → ∀ {st : St} {a : Act} {w : World} {hd : Nat → Value} {K : Ex → St → Option R} {Q : Exit → Act → World → Prop}, (∀ c a d v w, Q (.panic c) (a.put d v) w → Q (.panic c) a w) → Rel ρ w0 U0 own fx hd0 st a w hd → exec E c st K = some r →
    (∀ e st' a' w' hd', K e st' = some r → Rel ρ w0 U0 own fx hd0 st' a' w' hd' → Q (toExit e) a' w') → c.wp P Q a w
  | .skip, _, _, st, a, w, hd, K, Q, hQ, H, h, hk => wp_skip (hk .nm _ _ _ _ h H)
  | .exit id, _, _, st, a, w, hd, K, Q, hQ, H, h, hk => wp_exit (hk (.ex id) _ _ _ _ h H)
  | .ret, _, _, st, a, w, hd, K, Q, hQ, H, h, hk => wp_ret (hk .rt _ _ _ _ h H)
  | .region id o dr, hc, _, st, a, w, hd, K, Q, hQ, H, h, hk => by
    simp only [exec] at h
    cases dr with
    | false =>
      simp only [Bool.false_eq_true, if_false] at h
      exact wp_region_list (opsL_sound hE ho hF o.toList H h (fun st' a' w' hd' h' H' => hk .nm _ _ _ _ h' H'))
    | true =>
      simp only [if_true] at h
      simp only [chkCode, if_true, Bool.and_eq_true, decide_eq_true_eq] at hc
      have H' : Rel ρ w0 U0 own fx hd0 st a w.drew hd := H.grow (Ag.drew _ _)
      exact wp_region_any hm (any_of_R _ _ _ _ (opsI_sound hE ho hF hQ hc.1.1 (E.ord id) o.size _ hc.1.2 hc.2 (shut0 o) H' h (fun st' a' w' hd' h' H' => hk .nm _ _ _ _ h' H')))
  | .seq x y, hc, hl, st, a, w, hd, K, Q, hQ, H, h, hk => by
    simp only [exec] at h
    simp only [chkCode, Bool.and_eq_true] at hc
    refine wp_seq (exec_sound hE ho hF hm x hc.1 hl.1 (Q := Exit.then (y.wp P Q) Q) hQ H h (fun e st' a' w' hd' h' H' => ?_))
    cases e with
    | nm => exact exec_sound hE ho hF hm y hc.2 hl.2 hQ H' h' hk
    | ex i => exact hk (.ex i) _ _ _ _ h' H'
    | rt => exact hk .rt _ _ _ _ h' H'
  | .cond c x y, hc, hl, st, a, w, hd, K, Q, hQ, H, h, hk => by
    simp only [exec] at h
    simp only [chkCode, Bool.and_eq_true] at hc
    split at h
    · rename_i b hcv
      have e1 : a.eval c = .bool b := IRd.bool (hcv ▸ H.ev_ c)
      refine wp_cond e1 ?_
      cases b with
      | true => exact exec_sound hE ho hF hm x hc.1 hl.1 hQ H (by simpa using h) hk
      | false => exact exec_sound hE ho hF hm y hc.2 hl.2 hQ H (by simpa using h) hk
    · cases h
  | .block id x, hc, hl, st, a, w, hd, K, Q, hQ, H, h, hk => by
    simp only [exec] at h
    simp only [chkCode] at hc
    refine wp_block (exec_sound hE ho hF hm x hc hl (Q := Exit.inBlock id Q) hQ H h (fun e st' a' w' hd' h' H' => ?_))
    cases e with
    | nm => exact hk .nm _ _ _ _ h' H'
    | rt => exact hk .rt _ _ _ _ h' H'
    | ex i =>
      simp only [toExit, Exit.inBlock]
      simp only at h'
      split at h'
      · rename_i e; rw [if_pos e]; exact hk .nm _ _ _ _ h' H'
      · rename_i e; rw [if_neg e]; exact hk (.ex i) _ _ _ _ h' H'
  | .loop x, hc, hl, st, a, w, hd, K, Q, hQ, H, h, hk => by
    simp only [exec] at h
    simp only [chkCode] at hc
    rw [ho] at h
    obtain ⟨st1, hd1, h1, H1⟩ := canon_ok H h
    rcases hl.1 st1 with hno | ⟨m, hmm⟩
    · rw [hno R K] at h1
      cases h1
    · refine wp_loop_rounds m ?_
      have hrun := hmm R K
      rw [h1] at hrun
      have key : ∀ (m : Nat) {st : St} {a : Act} {w : World} {hd : Nat → Value}, Rel ρ w0 U0 own fx hd0 st a w hd → loopN (exec E x) (canon E.own (E.head (firstRegion x))) (fun e => canon E.own (E.tail (firstRegion x) e)) m st K = some r → Code.rounds P x Q m a w := by
        intro m
        induction m with
        | zero => intro st a w hd H h; simp [loopN] at h
        | succ m ih =>
          intro st a w hd H h
          simp only [loopN] at h
          rw [rounds_succ]
          refine exec_sound hE ho hF hm x hc hl.2 (Q := Exit.then (Code.rounds P x Q m) Q) hQ H h (fun e st2 a2 w2 hd2 h2 H2 => ?_)
          rw [ho] at h2
          cases e with
          | nm =>
            obtain ⟨st3, hd3, h3, H3⟩ := canon_ok H2 h2
            exact ih H3 (by rw [ho]; exact h3)
          | ex i =>
            obtain ⟨st3, hd3, h3, H3⟩ := canon_ok H2 h2
            exact hk (.ex i) _ _ _ _ h3 H3
          | rt =>
            obtain ⟨st3, hd3, h3, H3⟩ := canon_ok H2 h2
            exact hk .rt _ _ _ _ h3 H3
      exact key m H1 hrun
  | .rangeFunc _ _ _ _, _, _, st, a, w, hd, K, Q, hQ, H, h, hk => by simp [exec] at h
  | .scope _, _, _, st, a, w, hd, K, Q, hQ, H, h, hk => by simp [exec] at h
  | .label _, _, _, st, a, w, hd, K, Q, hQ, H, h, hk => by simp [exec] at h
  | .goto _, _, _, st, a, w, hd, K, Q, hQ, H, h, hk => by simp [exec] at h
  | .refuse _, _, _, st, a, w, hd, K, Q, hQ, H, h, hk => by simp [exec] at h
end
/-! ### A loop by its rounds on plain values -/
section
variable {V X : Type}
abbrev Rd (V X : Type) := ∀ {R : Type}, V → (V → Option R) → (X → Option R) → Option R
def it (rd : Rd V X) {R : Type} : Nat → V → (X → Option R) → Option R
  | 0, _, _ => none
  | m + 1, v, kx => rd v (fun v' => it rd m v' kx) kx
theorem it_ok {E : Env} {x : Code} {rd : Rd V X} (hs : V → St) (ex : X → Ex × St) (h1 : ∀ (R : Type) (v : V) (k : St → Option R) (kx : Ex → St → Option R), exec E x (hs v) (fun e st' => match e with
    | .nm => canon E.own (E.head (firstRegion x)) st' k
    | .ex i => canon E.own (E.tail (firstRegion x) (.ex i)) st' (kx (.ex i))
    | .rt => canon E.own (E.tail (firstRegion x) .rt) st' (kx .rt)) = rd v (fun v' => k (hs v')) (fun z => kx (ex z).1 (ex z).2)) :
    ∀ (R : Type) (K : Ex → St → Option R) (m : Nat) (v : V), loopN (exec E x) (canon E.own (E.head (firstRegion x))) (fun e => canon E.own (E.tail (firstRegion x) e)) m (hs v) K = it rd m v (fun z => K (ex z).1 (ex z).2) := by
  intro R K m
  induction m with
  | zero => intro v; rfl
  | succ m ih =>
    intro v
    refine (h1 R v (fun st => loopN (exec E x) (canon E.own (E.head (firstRegion x))) (fun e => canon E.own (E.tail (firstRegion x) e)) m st K) K).trans ?_
    show rd v _ _ = rd v _ _
    congr 1
    funext v'
    exact ih v'
theorem loopOk_of {E : Env} {x : Code} {rd : Rd V X} (hs : V → St) (ex : X → Ex × St) (fin : V → Option X) (h1 : ∀ (R : Type) (v : V) (k : St → Option R) (kx : Ex → St → Option R), exec E x (hs v) (fun e st' => match e with
    | .nm => canon E.own (E.head (firstRegion x)) st' k
    | .ex i => canon E.own (E.tail (firstRegion x) (.ex i)) st' (kx (.ex i))
    | .rt => canon E.own (E.tail (firstRegion x) .rt) st' (kx .rt)) = rd v (fun v' => k (hs v')) (fun z => kx (ex z).1 (ex z).2))
    (hlp : ∀ st, (∀ (R : Type) (K : Ex → St → Option R), E.lp (firstRegion x) st K = none) ∨ ∃ v, st = hs v ∧ ∀ (R : Type) (K : Ex → St → Option R), E.lp (firstRegion x) st K = (match fin v with
      | some z => K (ex z).1 (ex z).2
      | none => none))
    (hf : ∀ v z, fin v = some z → ∃ m, ∀ (R : Type) (kx : X → Option R), it rd m v kx = kx z) : LoopOk E x := by
  intro st
  rcases hlp st with h | ⟨v, rfl, h⟩
  · exact .inl h
  · cases hfv : fin v with
    | none => exact .inl (fun R K => by rw [h R K, hfv])
    | some z =>
      obtain ⟨m, hm⟩ := hf v z hfv
      refine .inr ⟨m, fun R K => ?_⟩
      rw [h R K, hfv, it_ok hs ex h1, hm]
end
end Go.Proofs.Ythbojpaghbbnnaa.Z
