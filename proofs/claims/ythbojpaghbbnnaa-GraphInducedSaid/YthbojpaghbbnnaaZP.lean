/- Rules for plain laws: a loop's rounds under an invariant; branches of a round, one at a time. Plain lemmas; no condition. -/
import Derived.Test.YthbojpaghbbnnaaZN
namespace Go.Proofs.Ythbojpaghbbnnaa.Z
set_option linter.unusedVariables false
set_option linter.unusedSimpArgs false
section
variable {V X : Type} {A : V → Prop} {B : X → Prop}
/-- One round leads on to a state of A, or out with B. -/
def Led (f : ∀ (R : Type), (V → Option R) → (X → Option R) → Option R) (A : V → Prop) (B : X → Prop) : Prop :=
  (∃ v, A v ∧ ∀ R k kx, f R k kx = k v) ∨ ∃ z, B z ∧ ∀ R k kx, f R k kx = kx z
theorem led_k {v : V} (h : A v) : Led (fun _ k _ => k v) A B := .inl ⟨v, h, fun _ _ _ => rfl⟩
theorem led_x {z : X} (h : B z) : Led (fun _ _ kx => kx z) A B := .inr ⟨z, h, fun _ _ _ => rfl⟩
theorem led_eq {f g : ∀ (R : Type), (V → Option R) → (X → Option R) → Option R} (e : ∀ R k kx, f R k kx = g R k kx) (h : Led g A B) : Led f A B := by
  rcases h with ⟨v, h1, h2⟩ | ⟨z, h1, h2⟩
  · exact .inl ⟨v, h1, fun R k kx => (e R k kx).trans (h2 R k kx)⟩
  · exact .inr ⟨z, h1, fun R k kx => (e R k kx).trans (h2 R k kx)⟩
theorem led_if {c : Prop} [Decidable c] {f g : ∀ (R : Type), (V → Option R) → (X → Option R) → Option R} (h1 : c → Led f A B) (h2 : ¬ c → Led g A B) : Led (fun R k kx => if c then f R k kx else g R k kx) A B := by
  by_cases h : c
  · exact led_eq (fun R k kx => if_pos h) (h1 h)
  · exact led_eq (fun R k kx => if_neg h) (h2 h)
theorem led_dif {c : Prop} [Decidable c] {f g : ∀ (R : Type), (V → Option R) → (X → Option R) → Option R} (h1 : c → Led f A B) (h2 : ¬ c → Led g A B) : Led (fun R k kx => if Decidable.decide c = true then f R k kx else g R k kx) A B :=
  led_if (fun h => h1 (of_decide_eq_true h)) (fun h => h2 (fun k => h (decide_eq_true k)))
theorem led_need {c : Prop} [Decidable c] {f : ∀ (R : Type), (V → Option R) → (X → Option R) → Option R} (hc : c) (h : Led f A B) : Led (fun R k kx => if c then f R k kx else none) A B := led_eq (fun R k kx => if_pos hc) h
theorem led_yes {c : Prop} [Decidable c] {f g : ∀ (R : Type), (V → Option R) → (X → Option R) → Option R} (hc : c) (h : Led f A B) : Led (fun R k kx => if c then f R k kx else g R k kx) A B := led_eq (fun R k kx => if_pos hc) h
theorem led_no {c : Prop} [Decidable c] {f g : ∀ (R : Type), (V → Option R) → (X → Option R) → Option R} (hc : ¬ c) (h : Led g A B) : Led (fun R k kx => if c then f R k kx else g R k kx) A B := led_eq (fun R k kx => if_neg hc) h
theorem led_mono {f : ∀ (R : Type), (V → Option R) → (X → Option R) → Option R} {A' : V → Prop} {B' : X → Prop} (h : Led f A B) (hA : ∀ v, A v → A' v) (hB : ∀ z, B z → B' z) : Led f A' B' :=
  h.imp (fun ⟨v, a, b⟩ => ⟨v, hA v a, b⟩) (fun ⟨z, a, b⟩ => ⟨z, hB z a, b⟩)
/-- A loop whose rounds keep I, and lessen μ, ends with Q. -/
theorem finOf_inv {rd : Rd V X} (I : V → Prop) (μ : V → Nat) (Q : X → Prop) (h : ∀ v, I v → Led (fun _ k kx => rd v k kx) (fun v' => I v' ∧ μ v' < μ v) Q) : ∀ v, I v → ∃ z, finOf rd v = some z ∧ Q z := by
  have key : ∀ (n : Nat) v, μ v < n → I v → ∃ z, finOf rd v = some z ∧ Q z := by
    intro n
    induction n with
    | zero => intro v hv; omega
    | succ n ih =>
      intro v hv hi
      rcases h v hi with ⟨v', ⟨h1, h2⟩, h3⟩ | ⟨z, h1, h3⟩
      · rw [finOf_step h3]
        exact ih v' (by omega) h1
      · exact ⟨z, finOf_end h3, h1⟩
  exact fun v hv => key (μ v + 1) v (by omega) hv
end
/-! The same for what is computed at once. -/
section
variable {D : Type} {Q : D → Prop}
def Wp (o : Option D) (Q : D → Prop) : Prop := ∃ x, o = some x ∧ Q x
theorem wp_some {x : D} (h : Q x) : Wp (some x) Q := ⟨x, rfl, h⟩
theorem wp_if {c : Prop} [Decidable c] {a b : Option D} (h1 : c → Wp a Q) (h2 : ¬ c → Wp b Q) : Wp (if c then a else b) Q := by
  by_cases h : c
  · rw [if_pos h]; exact h1 h
  · rw [if_neg h]; exact h2 h
theorem wp_dif {c : Prop} [Decidable c] {a b : Option D} (h1 : c → Wp a Q) (h2 : ¬ c → Wp b Q) : Wp (if Decidable.decide c = true then a else b) Q :=
  wp_if (fun h => h1 (of_decide_eq_true h)) (fun h => h2 (fun k => h (decide_eq_true k)))
theorem wp_need {c : Prop} [Decidable c] {a : Option D} (hc : c) (h : Wp a Q) : Wp (if c then a else none) Q := by rw [if_pos hc]; exact h
theorem wp_yes {c : Prop} [Decidable c] {a b : Option D} (hc : c) (h : Wp a Q) : Wp (if c then a else b) Q := by rw [if_pos hc]; exact h
theorem wp_no {c : Prop} [Decidable c] {a b : Option D} (hc : ¬ c) (h : Wp b Q) : Wp (if c then a else b) Q := by rw [if_neg hc]; exact h
end
theorem take_snoc {α : Type} (d : α) (l : List α) (i : Nat) (h : i < l.length) : l.take (i + 1) = l.take i ++ [l.getD i d] := by
  rw [List.take_add_one, List.getElem?_eq_getElem h]
  simp [List.getD, h]
theorem take_all {α : Type} {l : List α} {i : Nat} (h : l.length ≤ i) : l.take i = l := List.take_of_length_le h
theorem mem_idx {α : Type} (d : α) {l : List α} {p : α} : p ∈ l ↔ ∃ j, j < l.length ∧ l.getD j d = p := by
  constructor
  · intro h
    obtain ⟨j, hj, e⟩ := List.getElem_of_mem h
    exact ⟨j, hj, by rw [List.getD_eq_getElem?_getD, List.getElem?_eq_getElem hj, e]; rfl⟩
  · rintro ⟨j, hj, rfl⟩
    exact mem_getD d l j hj
theorem getD_setP {α : Type} (l : List α) (i j : Nat) (x d : α) : (l.set i x).getD j d = if i = j ∧ i < l.length then x else l.getD j d := by
  simp only [List.getD_eq_getElem?_getD, List.getElem?_set]
  by_cases h : i = j
  · subst h
    by_cases k : i < l.length
    · simp [k]
    · simp [k]
  · simp [h]
theorem and_need {a b : Bool} (ha : a = true) (hb : b = true) : (a && b) = true := by rw [ha, hb]; rfl
end Go.Proofs.Ythbojpaghbbnnaa.Z
