/- A statement whose order is open: its operations may be taken in one order that is checked once. Over any program; no condition. -/
import Derived.Test.YthbojpaghbbnnaaZB
namespace Go.Proofs.Ythbojpaghbbnnaa.Z
open Go Go.RowKit
set_option linter.unusedVariables false
set_option linter.unusedSimpArgs false
section
variable {P : Program} {ops : Array Oper} {Q : Exit → Act → World → Prop} {md : Region.Mode} {D : Nat → Bool}

/-- Whatever comes up from here on; behind every operation but those of D old memory is as it was. -/
def wpAnyR (P : Program) (md : Region.Mode) (ops : Array Oper) (Q : Exit → Act → World → Prop) (D : Nat → Bool) : Nat → Array Bool → Act → World → Prop
  | 0, l, a, w => Region.ready md ops l = [] ∧ Q .normal a w
  | f + 1, l, a, w => (Region.ready md ops l = [] → Q .normal a w) ∧
    ∀ i ∈ Region.ready md ops l, wpOp P ops Q i (fun a' w' => (D i = false → Ag (fun _ => False) w w') ∧ wpAnyR P md ops Q D f (l.setIfInBounds i true) a' w') a w
theorem any_of_R : ∀ (f : Nat) (l : Array Bool) (a : Act) (w : World), wpAnyR P md ops Q D f l a w → wpAny P md ops Q f l a w
  | 0, _, _, _, h => h
  | f + 1, _, _, _, h => ⟨h.1, fun i hi => wpOp_mono (fun a' w' k => any_of_R f _ a' w' k.2) (h.2 i hi)⟩
/-- Every operation that has come up came up behind all that it waits for. -/
def Shutd (md : Region.Mode) (ops : Array Oper) (l : Array Bool) : Prop := ∀ k o, ops[k]? = some o → l.getD k true = true → ∀ e ∈ o.after, Region.binds md e = true → l.getD e.on false = true
def waitsOn (md : Region.Mode) (ops : Array Oper) : Nat → Nat → Nat → Bool
  | 0, _, _ => false
  | f + 1, j, i => match ops[j]? with
    | some o => o.after.any fun e => Region.binds md e && (e.on == i || waitsOn md ops f e.on i)
    | none => false
theorem getD_size {l : Array Bool} {i : Nat} (h : l.getD i true = false) : i < l.size := by
  rcases Nat.lt_or_ge i l.size with h1 | h1
  · exact h1
  · simp [Array.getD, Nat.not_lt.2 h1] at h
theorem listed_waits {l : Array Bool} (hs : Shutd md ops l) {i : Nat} (hi : l.getD i true = false) : ∀ (f j : Nat), waitsOn md ops f j i = true → l.getD j false = true → False
  | 0, _, h, _ => by simp [waitsOn] at h
  | f + 1, j, h, hj => by
    unfold waitsOn at h
    cases ho : ops[j]? with
    | none => simp [ho] at h
    | some o =>
      simp only [ho] at h
      obtain ⟨e, he, hb⟩ := Array.any_eq_true'.1 h
      simp only [Bool.and_eq_true, Bool.or_eq_true, beq_iff_eq] at hb
      have hlt : j < l.size := by
        rcases Nat.lt_or_ge j l.size with h1 | h1
        · exact h1
        · simp [Array.getD, Nat.not_lt.2 h1] at hj
      have hj' : l.getD j true = true := by simpa [Array.getD, hlt] using hj
      have h2 := hs j o ho hj' e he hb.1
      rcases hb.2 with h3 | h3
      · rw [h3] at h2
        have := getD_size hi
        simp [Array.getD, this] at hi h2
        rw [hi] at h2
        cases h2
      · exact listed_waits hs hi f e.on h3 h2
theorem not_ready_of_waits {l : Array Bool} (hs : Shutd md ops l) {i : Nat} (hi : l.getD i true = false) {f j : Nat} (h : waitsOn md ops f j i = true) : j ∉ Region.ready md ops l := by
  intro hr
  obtain ⟨_, o, ho, hall⟩ := mem_ready.1 hr
  cases f with
  | zero => simp [waitsOn] at h
  | succ f =>
    unfold waitsOn at h
    simp only [ho] at h
    obtain ⟨e, he, hb⟩ := Array.any_eq_true'.1 h
    simp only [Bool.and_eq_true, Bool.or_eq_true, beq_iff_eq] at hb
    have h2 := hall e he hb.1
    rcases hb.2 with h3 | h3
    · rw [h3] at h2
      have := getD_size hi
      simp [Array.getD, this] at hi h2
      rw [hi] at h2
      cases h2
    · exact listed_waits hs hi f e.on h3 h2
theorem getD_set_true (l : Array Bool) (j k : Nat) (d : Bool) (h : l.getD k d = true) : (l.setIfInBounds j true).getD k d = true := by
  rcases Nat.lt_or_ge k l.size with h1 | h1
  · by_cases e : j = k
    · subst e; simp [Array.getD, h1]
    · simp [Array.getD, h1] at h
      simp [Array.getD, h1, Array.getElem_setIfInBounds, e, h]
  · simp [Array.getD, Nat.not_lt.2 h1] at h ⊢
    exact h
theorem Shutd.list {l : Array Bool} (hs : Shutd md ops l) {j : Nat} (hj : j ∈ Region.ready md ops l) : Shutd md ops (l.setIfInBounds j true) := by
  intro k o ho hk e he hb
  obtain ⟨_, oj, hoj, hall⟩ := mem_ready.1 hj
  by_cases hkj : k = j
  · subst hkj
    rw [ho] at hoj
    cases hoj
    exact getD_set_true _ _ _ _ (hall e he hb)
  · rw [getD_set_ne true (Ne.symm hkj)] at hk
    exact getD_set_true _ _ _ _ (hs k o ho hk e he hb)
/-- In every world that keeps what w has, o yields v in state a. -/
def From (P : Program) (ops : Array Oper) (o : Oper) (v : Value) (a : Act) (w : World) : Prop := YieldsIf P ops (fun w' => Ag (fun _ => False) w w') o v a
theorem From.later {o : Oper} {v : Value} {a : Act} {w w1 : World} (h : From P ops o v a w) (k : Ag (fun _ => False) w w1) : From P ops o v a w1 :=
  h.imp (fun ⟨h1, h2⟩ => ⟨h1, fun w' hw' => h2 w' (k.trans (hw'.mono (fun _ _ h => h)))⟩) id
theorem Ag.trans0 {a b c : World} (h : Ag (fun _ => False) a b) (k : Ag (fun _ => False) b c) : Ag (fun _ => False) a c := h.trans k
theorem firstR {i : Nat} {oi : Oper} {v : Value} {c : Nat} (hi : ops[i]? = some oi) (hsel : ∀ (j : Nat) (o : Oper) cs b, ops[j]? = some o → o.op ≠ .select cs b)
    (hQ : ∀ c a w, Q (.panic c) (a.put oi.dst v) w → Q (.panic c) a w) :
    ∀ (f : Nat) (l : Array Bool) (a : Act) (w : World),
      (∀ j oj, ops[j]? = some oj → j ≠ i → l.getD j true = false → (∀ e ∈ oj.after, Region.binds md e = true → e.on ≠ i) → oi.apart ops oj = true) →
      i ∈ Region.ready md ops l → Shutd md ops l → ((∀ w', (Region.wanted oi (yielded ops a.tmps) = true → (execOp a.eval oi).run P w' = .ok (.value v) w') ∧ (Region.wanted oi (yielded ops a.tmps) = false → v = undef)) ∨ (From P ops oi v a w ∧ ∀ j oj, ops[j]? = some oj → D j = true → l.getD j true = false → waitsOn md ops c j i = true)) →
      wpAnyR P md ops Q D f (l.setIfInBounds i true) (a.put oi.dst v) w → wpAnyR P md ops Q D (f + 1) l a w := by
  intro f
  induction f with
  | zero =>
    intro l a w _ hr _ hy H
    have hy' : YieldsIf P ops (fun w' => w' = w) oi v a := by
      rcases hy with hy | ⟨hy, _⟩
      · cases hw : Region.wanted oi (yielded ops a.tmps)
        · exact .inr ⟨hw, (hy w).2 hw⟩
        · exact .inl ⟨hw, fun w' _ => (hy w').1 hw⟩
      · exact hy.imp (fun ⟨h1, h2⟩ => ⟨h1, fun w' e => h2 w' (e ▸ Ag.refl _ _)⟩) id
    refine ⟨fun h => (by rw [h] at hr; cases hr), fun j hj => ?_⟩
    by_cases hji : j = i
    · subst hji; exact hy'.wpOp hi rfl ⟨fun _ => Ag.refl _ _, H⟩
    · have := ready_mono hj hji
      rw [H.1] at this
      cases this
  | succ f ih =>
    intro l a w hfree hr hs hy H
    have hy' : YieldsIf P ops (fun w' => w' = w) oi v a := by
      rcases hy with hy | ⟨hy, _⟩
      · cases hw : Region.wanted oi (yielded ops a.tmps)
        · exact .inr ⟨hw, (hy w).2 hw⟩
        · exact .inl ⟨hw, fun w' _ => (hy w').1 hw⟩
      · exact hy.imp (fun ⟨h1, h2⟩ => ⟨h1, fun w' e => h2 w' (e ▸ Ag.refl _ _)⟩) id
    refine ⟨fun h => (by rw [h] at hr; cases hr), fun j hj => ?_⟩
    by_cases hji : j = i
    · subst hji; exact hy'.wpOp hi rfl ⟨fun _ => Ag.refl _ _, H⟩
    · have h1 := H.2 j (ready_mono hj hji)
      obtain ⟨hjun, oj, hoj, hall⟩ := mem_ready.1 hj
      have hiun := (mem_ready.1 hr).1
      have hnot : ∀ e ∈ oj.after, Region.binds md e = true → e.on ≠ i := fun e he hb heq => by
        have h1 := hall e he hb
        rw [heq] at h1
        rcases Nat.lt_or_ge i l.size with h' | h'
        · simp [h'] at hiun h1; rw [hiun] at h1; cases h1
        · simp [Array.getElem?_eq_none h'] at h1
      have hclosed := hs.list hj
      have hapart := hfree j oj hoj hji hjun hnot
      have hfree' : ∀ k ok, ops[k]? = some ok → k ≠ i → (l.setIfInBounds j true).getD k true = false →
          (∀ e ∈ ok.after, Region.binds md e = true → e.on ≠ i) → oi.apart ops ok = true := fun k ok hk hki hun hno => by
        refine hfree k ok hk hki ?_ hno
        by_cases hjk : j = k
        · subst hjk; exact hjun
        · rw [getD_set_ne true hjk] at hun; exact hun
      rcases hy with hy | ⟨hy, hD⟩
      · have hyT : YieldsIf P ops (fun _ => True) oi v a := by
          cases hw : Region.wanted oi (yielded ops a.tmps)
          · exact .inr ⟨hw, (hy w).2 hw⟩
          · exact .inl ⟨hw, fun w' _ => (hy w').1 hw⟩
        have h2 := wpOp_putIf hoj hapart (fun cs b => hsel i oi cs b hi) (fun cs b => hsel j oj cs b hoj) hQ hyT h1
        refine wpOp_mono (fun a' w' h3 => ⟨h3.2.1, ih (l.setIfInBounds j true) a' w' hfree' (ready_mono hr (Ne.symm hji)) hclosed (.inl fun w1 => ?_) ?_⟩) h2
        · rcases h3.1 with ⟨q1, q2⟩ | ⟨q1, q2⟩
          · exact ⟨fun _ => q2 w1 trivial, fun h => by rw [q1] at h; cases h⟩
          · exact ⟨fun h => (by rw [q1] at h; cases h), fun _ => q2⟩
        · rw [Array.setIfInBounds_comm _ _ hji]
          exact h3.2.2
      · have hDj : D j = false := by
          cases hd : D j with
          | false => rfl
          | true => exact absurd hj (not_ready_of_waits hs (by
              rcases Nat.lt_or_ge i l.size with h' | h'
              · simp [h'] at hiun; simp [Array.getD, h', hiun]
              · simp [Array.getElem?_eq_none h'] at hiun) (hD j oj hoj hd (by
                rcases Nat.lt_or_ge j l.size with h' | h'
                · simp [h'] at hjun; simp [Array.getD, h', hjun]
                · simp [Array.getElem?_eq_none h'] at hjun)))
        have h2 := wpOp_putIf hoj hapart (fun cs b => hsel i oi cs b hi) (fun cs b => hsel j oj cs b hoj) hQ hy h1
        refine wpOp_mono (fun a' w' h3 => ⟨h3.2.1, ih (l.setIfInBounds j true) a' w' hfree' (ready_mono hr (Ne.symm hji)) hclosed (.inr ⟨From.later h3.1 (h3.2.1 hDj), fun k ok hk hdk hun => ?_⟩) ?_⟩) h2
        · refine hD k ok hk hdk ?_
          by_cases hjk : j = k
          · subst hjk
            rw [hDj] at hdk
            cases hdk
          · rw [getD_set_ne true hjk] at hun; exact hun
        · rw [Array.setIfInBounds_comm _ _ hji]
          exact h3.2.2
theorem oneR {i : Nat} {oi : Oper} {f : Nat} {l : Array Bool} {a : Act} {w : World} (hi : ops[i]? = some oi) (hr : Region.ready md ops l = [i])
    (h : wpOp P ops Q i (fun a' w' => (D i = false → Ag (fun _ => False) w w') ∧ wpAnyR P md ops Q D f (l.setIfInBounds i true) a' w') a w) : wpAnyR P md ops Q D (f + 1) l a w := by
  refine ⟨fun h0 => (by rw [hr] at h0; cases h0), fun j hj => ?_⟩
  rw [hr] at hj
  have hji : j = i := by simpa using hj
  subst hji
  exact h
theorem doneR {l : Array Bool} {a : Act} {w : World} (hr : Region.ready md ops l = []) (h : Q .normal a w) : ∀ f, wpAnyR P md ops Q D f l a w
  | 0 => ⟨hr, h⟩
  | _ + 1 => ⟨fun _ => h, by rw [hr]; simp⟩
end
end Go.Proofs.Ythbojpaghbbnnaa.Z
