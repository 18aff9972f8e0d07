/- The small machine's code is the real machine's. Plain lemmas; no condition. -/
import Derived.Test.YthbojpaghbbnnaaZI
import Derived.LoopN
namespace Go.Proofs.Ythbojpaghbbnnaa.Z
open Go Go.RowKit
set_option linter.unusedVariables false
set_option linter.unusedSimpArgs false
section
variable {P : Program} {ρ : Obs} {w : World} {hd : Nat → Value} {w0 : World} {U0 : Nat → Prop} {own : Nat} {hd0 : Nat → Value} {st : St} {a : Act} {R : Type} {r : R} {E : Env}
theorem op1_sound (hE : EnvOk P ρ E) (ho : E.own = own) (H : Rel ρ w0 U0 own hd0 st a w hd) {o : Oper} {k : St → Option R} (h : op1 E o st k = some r) {N : Act → World → Prop} {Q : Exit → Act → World → Prop}
    (hN : ∀ st' a' w' hd', k st' = some r → Rel ρ w0 U0 own hd0 st' a' w' hd' → (quietOp E o.op = true → Ag (fun _ => False) w w') → N a' w') : o.wp P a w N Q := by
  unfold op1 at h
  split at h
  · obtain ⟨z, v, h1, h2, h3, h4⟩ := pure_sound hE.tab h H.ev_ H.refs H.hdrs
    exact wp_value (h4 w) (hN _ _ _ _ h1 (H.put h2 h3 _) (fun _ => Ag.refl _ _))
  · split at h
    · rename_i t x hop
      obtain ⟨z, v, h1, h2, h3, h4⟩ := load_sound hE.tab H h
      refine wp_value (v := v) (w' := w) ?_ (hN _ _ _ _ h1 (H.put h2 h3 _) (fun _ => Ag.refl _ _))
      have := h4 w (Ag.refl _ _)
      simp only [execOp, hop, Sem.run_bind, this, Result.andThen_ok, Sem.run_pure]
    · exact eff_sound hE ho H h hN
theorem dstOf_eq : ∀ (l : List Oper) (j : Nat), dstOf l j = (l[j]?).bind (·.dst)
  | [], j => by simp [dstOf]
  | o :: l, 0 => by simp [dstOf]
  | o :: l, j + 1 => by simp [dstOf, dstOf_eq l j]
theorem setn_atn {α : Type} (d : α) : ∀ (l : List α) (i : Nat), setn (atn d l i) l i = l
  | [], _ => rfl
  | _ :: _, 0 => rfl
  | x :: l, i + 1 => congrArg (x :: ·) (setn_atn d l i)
theorem guard_ok (H : Rel ρ w0 U0 own hd0 st a w hd) {ops : Array Oper} {o : Oper} {k : St → Option R} (h : opG E ops.toList o st k = some r) : (Region.wanted o (yielded ops a.tmps) = true ∧ op1 E o st k = some r) ∨ (Region.wanted o (yielded ops a.tmps) = false ∧ k (St.put st o.dst .und) = some r) := by
  unfold opG at h
  split at h
  · rename_i hg
    exact .inl ⟨by simp [Region.wanted, hg], h⟩
  · rename_i j b hg
    split at h
    · rename_i d hd'
      have hdst : (ops[j]?).bind (·.dst) = some d := by
        have := dstOf_eq ops.toList j
        rw [hd'] at this
        rw [this]
        simp
      split at h
      · rename_i x hat
        have hlt : d < st.tm.length := by
          rcases Nat.lt_or_ge d st.tm.length with q | q
          · exact q
          · rw [atn_out _ _ _ q] at hat; cases hat
        have hlt2 : d < a.tmps.size := by rw [H.sz]; exact hlt
        have hv := H.sl d a.tmps[d] (Array.getElem?_eq_getElem hlt2)
        rw [hat] at hv
        have e1 := IRd.bool hv
        have hy : yielded ops a.tmps j = some x := by
          unfold yielded
          rw [hdst]
          simp [Array.getElem?_eq_getElem hlt2, e1]
        split at h
        · rename_i hxb
          subst hxb
          rw [show (⟨setn (.v .bool x) st.tm d, st.ob⟩ : St) = st from by rw [← hat, setn_atn]] at h
          exact .inl ⟨by simp [Region.wanted, hg, hy], h⟩
        · rename_i hxb
          have hx : x = !b := by cases x <;> cases b <;> first | rfl | exact absurd rfl hxb
          rw [← hx, show (⟨setn (.v .bool x) st.tm d, st.ob⟩ : St) = st from by rw [← hat, setn_atn]] at h
          exact .inr ⟨by simp [Region.wanted, hg, hy, hxb], h⟩
      · rename_i hat
        have hlt : d < st.tm.length := by
          rcases Nat.lt_or_ge d st.tm.length with q | q
          · exact q
          · rw [atn_out _ _ _ q] at hat; cases hat
        have hlt2 : d < a.tmps.size := by rw [H.sz]; exact hlt
        have hv := H.sl d a.tmps[d] (Array.getElem?_eq_getElem hlt2)
        rw [hat] at hv
        have e1 : a.tmps[d] = undef := hv
        have hy : yielded ops a.tmps j = none := by
          unfold yielded
          rw [hdst]
          simp [Array.getElem?_eq_getElem hlt2, e1, undef]
        exact .inr ⟨by simp [Region.wanted, hg, hy], h⟩
      · cases h
    · cases h
theorem opsL_sound (hE : EnvOk P ρ E) (ho : E.own = own) {ops : Array Oper} {Q : Exit → Act → World → Prop} {k : St → Option R} : ∀ (l : List Oper) {st : St} {a : Act} {w : World} {hd : Nat → Value}, Rel ρ w0 U0 own hd0 st a w hd → opsL E ops.toList l st k = some r →
    (∀ st' a' w' hd', k st' = some r → Rel ρ w0 U0 own hd0 st' a' w' hd' → Q .normal a' w') → wpList P ops Q l a w
  | [], st, a, w, hd, H, h, hk => hk _ _ _ _ h H
  | o :: l, st, a, w, hd, H, h, hk => by
    unfold wpList
    rcases guard_ok H h with ⟨h1, h2⟩ | ⟨h1, h2⟩
    · rw [if_pos h1]
      exact .inl (op1_sound hE ho H h2 (fun st' a' w' hd' h3 H' _ => opsL_sound hE ho l H' h3 hk))
    · rw [if_neg (by rw [h1]; simp)]
      exact opsL_sound hE ho l (H.put (x := .und) (v := undef) rfl (by simp [A.refs]) o.dst) h2 hk
/-- May a region be walked in this order? -/
def dAt (E : Env) (ops : Array Oper) (j : Nat) : Bool :=
  match ops[j]? with
  | some o => !quietOp E o.op
  | none => false
def chk (E : Env) (ops : Array Oper) : List Nat → Array Bool → Bool
  | [], l => (Region.ready .any ops l).isEmpty
  | i :: r, l => (match ops[i]? with
    | none => false
    | some o =>
      if isPure o.op = true then Region.free .any ops l i && (Region.ready .any ops l).contains i
      else if isLoad o.op = true then Region.free .any ops l i && (Region.ready .any ops l).contains i && (List.range ops.size).all (fun j => !(dAt E ops j) || l.getD j true || waitsOn .any ops ops.size j i)
      else Region.ready .any ops l == [i]) && chk E ops r (l.setIfInBounds i true)
theorem opsI_sound (hE : EnvOk P ρ E) (ho : E.own = own) {ops : Array Oper} {Q : Exit → Act → World → Prop} (hQ : ∀ c a d v w, Q (.panic c) (a.put d v) w → Q (.panic c) a w) (hsel : Region.noSelect ops = true) {k : St → Option R} : ∀ (ord : List Nat) (f : Nat) (l : Array Bool) {st : St} {a : Act} {w : World} {hd : Nat → Value}, ord.length ≤ f → chk E ops ord l = true → Shutd .any ops l →
    Rel ρ w0 U0 own hd0 st a w hd → opsI E ops.toList ord st k = some r → (∀ st' a' w' hd', k st' = some r → Rel ρ w0 U0 own hd0 st' a' w' hd' → Q .normal a' w') → wpAnyR P .any ops Q (dAt E ops) f l a w
  | [], f, l, st, a, w, hd, _, hc, hs, H, h, hk => doneR (by simpa [chk] using hc) (hk _ _ _ _ h H) f
  | i :: ord, 0, l, st, a, w, hd, hf, _, _, _, _, _ => by simp at hf
  | i :: ord, f + 1, l, st, a, w, hd, hf, hc, hs, H, h, hk => by
    simp only [chk, Bool.and_eq_true] at hc
    obtain ⟨hc1, hc2⟩ := hc
    simp only [opsI] at h
    cases hoi : ops[i]? with
    | none => rw [hoi] at hc1; cases hc1
    | some o =>
      have hoi' : ops.toList[i]? = some o := by simpa using hoi
      rw [hoi'] at h
      simp only at h
      rw [hoi] at hc1
      simp only at hc1
      have hrec : ∀ {st' : St} {a' : Act} {w' : World} {hd' : Nat → Value}, i ∈ Region.ready .any ops l → Rel ρ w0 U0 own hd0 st' a' w' hd' → opsI E ops.toList ord st' k = some r → wpAnyR P .any ops Q (dAt E ops) f (l.setIfInBounds i true) a' w' :=
        fun hr H' h' => opsI_sound hE ho hQ hsel ord f (l.setIfInBounds i true) (by simpa using hf) hc2 (hs.list hr) H' h' hk
      split at hc1
      · rename_i hp
        simp only [Bool.and_eq_true, List.contains_eq_mem, decide_eq_true_eq] at hc1
        have hfr : ∀ j oj, ops[j]? = some oj → j ≠ i → l.getD j true = false → (∀ e ∈ oj.after, Region.binds .any e = true → e.on ≠ i) → o.apart ops oj = true := Region.free_spec hoi hc1.1
        rcases guard_ok H h with ⟨h1, h2⟩ | ⟨h1, h2⟩
        · unfold op1 at h2
          rw [if_pos hp] at h2
          obtain ⟨z, v, q1, q2, q3, q4⟩ := pure_sound hE.tab h2 H.ev_ H.refs H.hdrs
          exact firstR (c := 0) hoi (Region.noSelect_spec hsel) (fun c a w => hQ c a _ _ w) f l a w hfr hc1.2 hs (.inl (fun w' => ⟨fun _ => q4 w', fun hn => by rw [h1] at hn; cases hn⟩)) (hrec hc1.2 (H.put q2 q3 o.dst) q1)
        · exact firstR (v := undef) (c := 0) hoi (Region.noSelect_spec hsel) (fun c a w => hQ c a _ _ w) f l a w hfr hc1.2 hs (.inl (fun w' => ⟨fun hn => (by rw [h1] at hn; cases hn), fun _ => rfl⟩)) (hrec hc1.2 (H.put (x := .und) (v := undef) rfl (by simp [A.refs]) o.dst) h2)
      · rename_i hp
        split at hc1
        · rename_i hl
          simp only [Bool.and_eq_true, List.contains_eq_mem, decide_eq_true_eq, List.all_eq_true, List.mem_range, Bool.or_eq_true, Bool.not_eq_true'] at hc1
          obtain ⟨⟨c1, c2⟩, c3⟩ := hc1
          have hfr : ∀ j oj, ops[j]? = some oj → j ≠ i → l.getD j true = false → (∀ e ∈ oj.after, Region.binds .any e = true → e.on ≠ i) → o.apart ops oj = true := Region.free_spec hoi c1
          have hw : ∀ j oj, ops[j]? = some oj → dAt E ops j = true → l.getD j true = false → waitsOn .any ops ops.size j i = true := fun j oj hj hd hun => by
            rcases c3 j (Array.getElem?_eq_some_iff.1 hj).1 with (h | h) | h
            · rw [hd] at h; cases h
            · rw [hun] at h; cases h
            · exact h
          rcases guard_ok H h with ⟨h1, h2⟩ | ⟨h1, h2⟩
          · unfold op1 at h2
            rw [if_neg hp] at h2
            split at h2
            · rename_i t x hop
              obtain ⟨z, v, q1, q2, q3, q4⟩ := load_sound hE.tab H h2
              refine firstR (v := v) (c := ops.size) hoi (Region.noSelect_spec hsel) (fun c a w => hQ c a _ _ w) f l a w hfr c2 hs (.inr ⟨.inl ⟨h1, fun w' hw' => ?_⟩, hw⟩) (hrec c2 (H.put q2 q3 o.dst) q1)
              have := q4 w' hw'
              simp only [execOp, hop, Sem.run_bind, this, Result.andThen_ok, Sem.run_pure]
            · rename_i hno
              unfold isLoad at hl
              split at hl
              · rename_i t x hop
                exact absurd hop (hno t x)
              · cases hl
          · exact firstR (v := undef) (c := 0) hoi (Region.noSelect_spec hsel) (fun c a w => hQ c a _ _ w) f l a w hfr c2 hs (.inl (fun w' => ⟨fun hn => (by rw [h1] at hn; cases hn), fun _ => rfl⟩)) (hrec c2 (H.put (x := .und) (v := undef) rfl (by simp [A.refs]) o.dst) h2)
        · have hr : Region.ready .any ops l = [i] := by simpa using hc1
          have hmem : i ∈ Region.ready .any ops l := by rw [hr]; simp
          refine oneR hoi hr ?_
          unfold wpOp
          rw [hoi]
          simp only
          rcases guard_ok H h with ⟨h1, h2⟩ | ⟨h1, h2⟩
          · rw [if_pos h1]
            refine .inl (op1_sound hE ho H h2 (fun st' a' w' hd' q1 H' q3 => ⟨fun hD => q3 ?_, hrec hmem H' q1⟩))
            simp only [dAt, hoi] at hD
            simpa using hD
          · rw [if_neg (by rw [h1]; simp)]
            exact ⟨fun _ => Ag.refl _ _, hrec hmem (H.put (x := .und) (v := undef) rfl (by simp [A.refs]) o.dst) h2⟩
end
end Go.Proofs.Ythbojpaghbbnnaa.Z
