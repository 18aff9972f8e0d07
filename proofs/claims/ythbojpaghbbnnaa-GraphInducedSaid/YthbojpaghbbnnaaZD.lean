/- The state of the small machine and the state of the real one: what holds between them, and what steps leave of it. Plain lemmas; no condition. -/
import Derived.Test.YthbojpaghbbnnaaZA
import Derived.OrdersHeld
namespace Go.Proofs.Ythbojpaghbbnnaa.Z
open Go Go.RowKit
set_option linter.unusedVariables false
set_option linter.unusedSimpArgs false

/-- Nothing that was there has turned, but for the blocks of U. -/
structure Ag (U : Nat → Prop) (w w' : World) : Prop where
  os : w'.os = w.os
  tape : w'.tape = w.tape
  output : w'.output = w.output
  size : w.heap.size ≤ w'.heap.size
  block : ∀ b, b < w.heap.size → ¬ U b → w'.heap[b]? = w.heap[b]?
theorem Ag.refl (U : Nat → Prop) (w : World) : Ag U w w := ⟨rfl, rfl, rfl, Nat.le_refl _, fun _ _ _ => rfl⟩
theorem Ag.trans {U : Nat → Prop} {a b c : World} (h : Ag U a b) (k : Ag U b c) : Ag U a c :=
  ⟨k.os.trans h.os, k.tape.trans h.tape, k.output.trans h.output, Nat.le_trans h.size k.size, fun i hi hu => (k.block i (Nat.lt_of_lt_of_le hi h.size) hu).trans (h.block i hi hu)⟩
theorem Ag.mono {U V : Nat → Prop} {w w' : World} (h : Ag U w w') (hv : ∀ b, b < w.heap.size → U b → V b) : Ag V w w' := ⟨h.os, h.tape, h.output, h.size, fun b hb hn => h.block b hb (fun hu => hn (hv b hb hu))⟩
theorem Ag.of_below {w w' : World} (h : Below w.heap.size w w') (U : Nat → Prop) : Ag U w w' := ⟨h.os, h.tape, h.output, h.size, fun b hb _ => h.block b hb⟩
theorem Ag.below {U : Nat → Prop} {w w' : World} (h : Ag U w w') (hU : ∀ b, b < w.heap.size → ¬ U b) : Below w.heap.size w w' := ⟨h.os, h.tape, h.output, h.size, fun b hb => h.block b hb (hU b hb)⟩
theorem Ag.of_grown {w w' : World} {row : Option Nat} (h : w.grownBy w' row) {U : Nat → Prop} (hU : ∀ b, row = some b → U b) : Ag U w w' := ⟨h.os, h.tape, h.output, h.size, fun b hb hn => h.block b hb (fun e => hn (hU b e.symm))⟩
theorem Ag.drew (U : Nat → Prop) (w : World) : Ag U w w.drew := ⟨rfl, rfl, rfl, Nat.le_refl _, fun _ _ _ => rfl⟩
/-- What holds whenever memory stays as w has it, but for U, holds whenever it stays as w' has it, but for U'. -/
def Tr (U : Nat → Prop) (w : World) (U' : Nat → Prop) (w' : World) : Prop := ∀ w'', Ag U' w' w'' → Ag U w w''
theorem Tr.refl (U : Nat → Prop) (w : World) : Tr U w U w := fun _ h => h
theorem Tr.of {U V U' : Nat → Prop} {w w' : World} (h : Ag V w w') (hV : ∀ b, b < w.heap.size → V b → U b) (hU : ∀ b, b < w.heap.size → U' b → U b) : Tr U w U' w' := fun w'' k =>
  ⟨k.os.trans h.os, k.tape.trans h.tape, k.output.trans h.output, Nat.le_trans h.size k.size, fun b hb hn => (k.block b (Nat.lt_of_lt_of_le hb h.size) (fun hu => hn (hU b hb hu))).trans (h.block b hb (fun hv => hn (hV b hb hv)))⟩
theorem Tr.trans {U U' U'' : Nat → Prop} {a b c : World} (h : Tr U a U' b) (k : Tr U' b U'' c) : Tr U a U'' c := fun w hw => h w (k w hw)

def Els {α : Type} (Q : List Value → α → Prop) : List Value → List α → Prop
  | cs, [] => cs = []
  | cs, x :: xs => ∃ c r, cs = c ++ r ∧ Q c x ∧ Els Q r xs
theorem Els.mono {α : Type} {Q Q' : List Value → α → Prop} (h : ∀ c x, Q c x → Q' c x) : ∀ {cs : List Value} {xs : List α}, Els Q cs xs → Els Q' cs xs
  | _, [], e => e
  | _, _ :: _, ⟨c, r, e, hq, hr⟩ => ⟨c, r, e, h _ _ hq, Els.mono h hr⟩
theorem Els.length {α : Type} {Q : List Value → α → Prop} {sz : Nat} (hz : ∀ c x, Q c x → c.length = sz) : ∀ {cs : List Value} {xs : List α}, Els Q cs xs → cs.length = xs.length * sz
  | _, [], e => by cases e; simp
  | _, x :: xs, ⟨c, r, e, hq, hr⟩ => by rw [e, List.length_append, hz _ _ hq, Els.length hz hr, List.length_cons, Nat.succ_mul]; omega
theorem Els.append {α : Type} {Q : List Value → α → Prop} : ∀ {cs ds : List Value} {xs ys : List α}, Els Q cs xs → Els Q ds ys → Els Q (cs ++ ds) (xs ++ ys)
  | _, _, [], _, e, k => by cases e; simpa using k
  | _, _, _ :: _, _, ⟨c, r, e, hq, hr⟩, k => ⟨c, _, by rw [e, List.append_assoc], hq, hr.append k⟩
theorem Els.get {α : Type} {Q : List Value → α → Prop} {sz : Nat} (hz : ∀ c x, Q c x → c.length = sz) : ∀ {cs : List Value} {xs : List α}, Els Q cs xs → ∀ i (hi : i < xs.length),
    Q ((cs.drop (i * sz)).take sz) xs[i]
  | _, [], _, i, hi => absurd hi (by simp)
  | _, x :: xs, ⟨c, r, e, hq, hr⟩, 0, _ => by
    have := hz _ _ hq
    rw [e, Nat.zero_mul, List.drop_zero, ← this, List.take_left']
    · exact hq
    · rfl
  | _, x :: xs, ⟨c, r, e, hq, hr⟩, i + 1, hi => by
    have h1 := hz _ _ hq
    rw [e, Nat.succ_mul, Nat.add_comm, ← List.drop_drop, show sz = c.length from h1.symm, List.drop_left', ← h1.symm]
    · exact Els.get hz hr i (by simpa using hi)
    · rfl
theorem Els.take {α : Type} {Q : List Value → α → Prop} {sz : Nat} (hz : ∀ c x, Q c x → c.length = sz) : ∀ {cs : List Value} {xs : List α}, Els Q cs xs → ∀ n, Els Q (cs.take (n * sz)) (xs.take n)
  | _, [], e, n => by cases e; simp [Els]
  | _, x :: xs, _, 0 => by simp [Els]
  | _, x :: xs, ⟨c, r, e, hq, hr⟩, n + 1 => by
    have h1 := hz _ _ hq
    refine ⟨c, r.take (n * sz), ?_, hq, Els.take hz hr n⟩
    rw [e, List.take_append, List.take_of_length_le (by rw [h1, Nat.succ_mul]; omega), h1, Nat.succ_mul, Nat.add_sub_cancel]
theorem Els.drop {α : Type} {Q : List Value → α → Prop} {sz : Nat} (hz : ∀ c x, Q c x → c.length = sz) : ∀ {cs : List Value} {xs : List α}, Els Q cs xs → ∀ n, Els Q (cs.drop (n * sz)) (xs.drop n)
  | _, [], e, n => by cases e; simp [Els]
  | cs, x :: xs, h, 0 => by simpa using h
  | _, x :: xs, ⟨c, r, e, hq, hr⟩, n + 1 => by
    have h1 := hz _ _ hq
    rw [e, Nat.succ_mul, Nat.add_comm, ← List.drop_drop, show sz = c.length from h1.symm, List.drop_left' rfl, ← h1.symm]
    exact Els.drop hz hr n
theorem Els.set {α : Type} {Q : List Value → α → Prop} {sz : Nat} (hz : ∀ c x, Q c x → c.length = sz) {d : List Value} {y : α} (hd : Q d y) : ∀ {cs : List Value} {xs : List α}, Els Q cs xs → ∀ i, i < xs.length →
    Els Q (cs.take (i * sz) ++ d ++ cs.drop (i * sz + sz)) (xs.set i y)
  | _, [], _, i, hi => absurd hi (by simp)
  | _, x :: xs, ⟨c, r, e, hq, hr⟩, 0, _ => by
    have h1 := hz _ _ hq
    refine ⟨d, r, ?_, hd, hr⟩
    rw [e, Nat.zero_mul, List.take_zero, List.nil_append, Nat.zero_add, ← h1, List.drop_left' rfl]
  | _, x :: xs, ⟨c, r, e, hq, hr⟩, i + 1, hi => by
    have h1 := hz _ _ hq
    refine ⟨c, _, ?_, hq, Els.set hz hd hr i (by simpa using hi)⟩
    rw [e, List.take_append, List.take_of_length_le (by rw [h1, Nat.succ_mul]; omega), h1, Nat.succ_mul, Nat.add_sub_cancel, show i * sz + sz + sz = c.length + (i * sz + sz) by omega, ← List.drop_drop, List.drop_left' rfl]
    simp only [List.append_assoc]
theorem Els.replicate {α : Type} {Q : List Value → α → Prop} {c : List Value} {x : α} (h : Q c x) : ∀ n, Els Q (List.replicate n c).flatten (List.replicate n x)
  | 0 => rfl
  | n + 1 => ⟨c, _, by rw [List.replicate_succ, List.flatten_cons], h, Els.replicate h n⟩

section
/-- What the pointers that stand for objects say of memory. -/
abbrev Obs := (n : Nat) → World → Value → OT n → Prop
variable (ρ : Obs)
/-- The cells of a value, which stay so as long as memory stays, but for U. -/
def ICs (U : Nat → Prop) (w : World) : (t : T) → List Value → t.den → Prop
  | .int k, cs, x => cs = [.int k x]
  | .bool, cs, x => cs = [.bool x]
  | .flt, cs, x => cs = [.float .f64 x]
  | .list t, cs, xs => ∃ A c ds, cs = [.slice A (List.length xs) c] ∧ List.length xs ≤ maxLen ∧ List.length xs ≤ c ∧ Els (ICs U w t) ds xs ∧
      (0 < List.length xs → ∃ b off, A = some ⟨b, off, none⟩ ∧ ∀ w', Ag U w w' → ∀ j, j < ds.length → w'.cell? ⟨b, off + j, none⟩ = ds[j]?)
  | .pair a b, cs, x => ∃ c d, cs = c ++ d ∧ ICs U w a c x.1 ∧ ICs U w b d x.2
  | .obj n, cs, x => ∃ v, cs = [v] ∧ match x with
    | none => v = .pointer none
    | some y => (∃ a, v = .pointer (some a)) ∧ ∀ w', Ag U w w' → ρ n w' v y
  | .one t, cs, x => ICs U w t cs x
  | .ptr t, cs, x => ∃ v, cs = [v] ∧ match x with
    | none => v = .pointer none
    | some y => ∃ b off ds, v = .pointer (some ⟨b, off, none⟩) ∧ ICs U w t ds y ∧ ∀ w', Ag U w w' → ∀ j, j < t.size → w'.cell? ⟨b, off + j, none⟩ = ds[j]?
variable {ρ}
theorem ICs.length {U : Nat → Prop} {w : World} : ∀ {t : T} {cs : List Value} {x : t.den}, ICs ρ U w t cs x → cs.length = t.size
  | .int _, _, _, h => by cases h; rfl
  | .bool, _, _, h => by cases h; rfl
  | .flt, _, _, h => by cases h; rfl
  | .list _, _, _, ⟨_, _, _, h, _⟩ => by cases h; rfl
  | .pair a b, _, _, ⟨c, d, h, h1, h2⟩ => by rw [h, List.length_append, ICs.length h1, ICs.length h2]; rfl
  | .obj _, _, _, ⟨_, h, _⟩ => by cases h; rfl
  | .ptr _, _, _, ⟨_, h, _⟩ => by cases h; rfl
  | .one t, cs, x, h => ICs.length (t := t) (cs := cs) (x := x) h
theorem ICs.tr {U U' : Nat → Prop} {w w' : World} (k : Tr U w U' w') : ∀ {t : T} {cs : List Value} {x : t.den}, ICs ρ U w t cs x → ICs ρ U' w' t cs x
  | .int _, _, _, h => h
  | .bool, _, _, h => h
  | .flt, _, _, h => h
  | .list _, _, _, ⟨A, c, ds, h, h1, hc, h2, h3⟩ => ⟨A, c, ds, h, h1, hc, h2.mono (fun _ _ q => ICs.tr k q), fun hp => by
    obtain ⟨b, off, e, h4⟩ := h3 hp
    exact ⟨b, off, e, fun w'' hw => h4 w'' (k w'' hw)⟩⟩
  | .pair a b, _, _, ⟨c, d, h, h1, h2⟩ => ⟨c, d, h, ICs.tr k h1, ICs.tr k h2⟩
  | .obj _, _, none, ⟨v, h, h1⟩ => ⟨v, h, h1⟩
  | .obj _, _, some y, ⟨v, h, h1, h2⟩ => ⟨v, h, h1, fun w'' hw => h2 w'' (k w'' hw)⟩
  | .one t, cs, x, h => ICs.tr k (t := t) (cs := cs) (x := x) h
  | .ptr _, _, none, ⟨v, h, h1⟩ => ⟨v, h, h1⟩
  | .ptr _, _, some y, ⟨v, h, b, off, ds, h1, h2, h3⟩ => ⟨v, h, b, off, ds, h1, ICs.tr k h2, fun w'' hw => h3 w'' (k w'' hw)⟩
/-- A value of these cells. -/
def pack (t : T) (cs : List Value) : Value :=
  match t with
  | .pair _ _ => .agg cs.toArray
  | .one _ => .agg cs.toArray
  | _ => cs.headD undef
theorem pack_agg {t : T} (h : t.isPair = true) (cs : List Value) : pack t cs = .agg cs.toArray := by
  cases t <;> simp [T.isPair] at h <;> rfl
def IRd (ρ : Obs) (U : Nat → Prop) (w : World) (t : T) (v : Value) (x : t.den) : Prop := ∃ cs, v = pack t cs ∧ ICs ρ U w t cs x
theorem IRd.tr {U U' : Nat → Prop} {w w' : World} {t : T} {v : Value} {x : t.den} (h : IRd ρ U w t v x) (k : Tr U w U' w') : IRd ρ U' w' t v x := by
  obtain ⟨cs, e, h⟩ := h
  exact ⟨cs, e, ICs.tr k h⟩
end
end Go.Proofs.Ythbojpaghbbnnaa.Z
namespace Go.Proofs.Ythbojpaghbbnnaa.Z
open Go Go.RowKit
set_option linter.unusedVariables false
set_option linter.unusedSimpArgs false
section
variable {P : Program} {ops : Array Oper} {Q : Exit → Act → World → Prop} {md : Region.Mode} {D : Nat → Bool}

/-- Whatever comes up from here on; behind every operation but those of D old memory is as it was. -/
def wpAnyR (P : Program) (md : Region.Mode) (ops : Array Oper) (Q : Exit → Act → World → Prop) (D : Nat → Bool) : Nat → Array Bool → Act → World → Prop
  | 0, l, a, w => Region.ready md ops l = [] ∧ Q .normal a w
  | f + 1, l, a, w => (Region.ready md ops l = [] → Q .normal a w) ∧
    ∀ i ∈ Region.ready md ops l, wpOp P ops Q i (fun a' w' => (D i = false → Ag (fun _ => False) w w') ∧ wpAnyR P md ops Q D f (l.setIfInBounds i true) a' w') a w
theorem any_of_R : ∀ (f : Nat) (l : Array Bool) (a : Act) (w : World), wpAnyR P md ops Q D f l a w → wpAny P md ops Q f l a w
  | 0, _, _, _, h => h
  | f + 1, _, _, _, h => ⟨h.1, fun i hi => wpOp_mono (fun a' w' k => any_of_R f _ a' w' k.2) (h.2 i hi)⟩
/-- Every operation that has come up came up behind all that it waits for. -/
def Shutd (md : Region.Mode) (ops : Array Oper) (l : Array Bool) : Prop := ∀ k o, ops[k]? = some o → l.getD k true = true → ∀ e ∈ o.after, Region.binds md e = true → l.getD e.on false = true
def waitsOn (md : Region.Mode) (ops : Array Oper) : Nat → Nat → Nat → Bool
  | 0, _, _ => false
  | f + 1, j, i => match ops[j]? with
    | some o => o.after.any fun e => Region.binds md e && (e.on == i || waitsOn md ops f e.on i)
    | none => false
theorem getD_size {l : Array Bool} {i : Nat} (h : l.getD i true = false) : i < l.size := by
  rcases Nat.lt_or_ge i l.size with h1 | h1
  · exact h1
  · simp [Array.getD, Nat.not_lt.2 h1] at h
theorem listed_waits {l : Array Bool} (hs : Shutd md ops l) {i : Nat} (hi : l.getD i true = false) : ∀ (f j : Nat), waitsOn md ops f j i = true → l.getD j false = true → False
  | 0, _, h, _ => by simp [waitsOn] at h
  | f + 1, j, h, hj => by
    unfold waitsOn at h
    cases ho : ops[j]? with
    | none => simp [ho] at h
    | some o =>
      simp only [ho] at h
      obtain ⟨e, he, hb⟩ := Array.any_eq_true'.1 h
      simp only [Bool.and_eq_true, Bool.or_eq_true, beq_iff_eq] at hb
      have hlt : j < l.size := by
        rcases Nat.lt_or_ge j l.size with h1 | h1
        · exact h1
        · simp [Array.getD, Nat.not_lt.2 h1] at hj
      have hj' : l.getD j true = true := by simpa [Array.getD, hlt] using hj
      have h2 := hs j o ho hj' e he hb.1
      rcases hb.2 with h3 | h3
      · rw [h3] at h2
        have := getD_size hi
        simp [Array.getD, this] at hi h2
        rw [hi] at h2
        cases h2
      · exact listed_waits hs hi f e.on h3 h2
theorem not_ready_of_waits {l : Array Bool} (hs : Shutd md ops l) {i : Nat} (hi : l.getD i true = false) {f j : Nat} (h : waitsOn md ops f j i = true) : j ∉ Region.ready md ops l := by
  intro hr
  obtain ⟨_, o, ho, hall⟩ := mem_ready.1 hr
  cases f with
  | zero => simp [waitsOn] at h
  | succ f =>
    unfold waitsOn at h
    simp only [ho] at h
    obtain ⟨e, he, hb⟩ := Array.any_eq_true'.1 h
    simp only [Bool.and_eq_true, Bool.or_eq_true, beq_iff_eq] at hb
    have h2 := hall e he hb.1
    rcases hb.2 with h3 | h3
    · rw [h3] at h2
      have := getD_size hi
      simp [Array.getD, this] at hi h2
      rw [hi] at h2
      cases h2
    · exact listed_waits hs hi f e.on h3 h2
theorem getD_set_true (l : Array Bool) (j k : Nat) (d : Bool) (h : l.getD k d = true) : (l.setIfInBounds j true).getD k d = true := by
  rcases Nat.lt_or_ge k l.size with h1 | h1
  · by_cases e : j = k
    · subst e; simp [Array.getD, h1]
    · simp [Array.getD, h1] at h
      simp [Array.getD, h1, Array.getElem_setIfInBounds, e, h]
  · simp [Array.getD, Nat.not_lt.2 h1] at h ⊢
    exact h
theorem Shutd.list {l : Array Bool} (hs : Shutd md ops l) {j : Nat} (hj : j ∈ Region.ready md ops l) : Shutd md ops (l.setIfInBounds j true) := by
  intro k o ho hk e he hb
  obtain ⟨_, oj, hoj, hall⟩ := mem_ready.1 hj
  by_cases hkj : k = j
  · subst hkj
    rw [ho] at hoj
    cases hoj
    exact getD_set_true _ _ _ _ (hall e he hb)
  · rw [getD_set_ne true (Ne.symm hkj)] at hk
    exact getD_set_true _ _ _ _ (hs k o ho hk e he hb)
/-- In every world that keeps what w has, o yields v in state a. -/
def From (P : Program) (ops : Array Oper) (o : Oper) (v : Value) (a : Act) (w : World) : Prop := YieldsIf P ops (fun w' => Ag (fun _ => False) w w') o v a
theorem From.later {o : Oper} {v : Value} {a : Act} {w w1 : World} (h : From P ops o v a w) (k : Ag (fun _ => False) w w1) : From P ops o v a w1 :=
  h.imp (fun ⟨h1, h2⟩ => ⟨h1, fun w' hw' => h2 w' (k.trans (hw'.mono (fun _ _ h => h)))⟩) id
theorem Ag.trans0 {a b c : World} (h : Ag (fun _ => False) a b) (k : Ag (fun _ => False) b c) : Ag (fun _ => False) a c := h.trans k
theorem firstR {i : Nat} {oi : Oper} {v : Value} {c : Nat} (hi : ops[i]? = some oi) (hsel : ∀ (j : Nat) (o : Oper) cs b, ops[j]? = some o → o.op ≠ .select cs b)
    (hQ : ∀ c a w, Q (.panic c) (a.put oi.dst v) w → Q (.panic c) a w) :
    ∀ (f : Nat) (l : Array Bool) (a : Act) (w : World),
      (∀ j oj, ops[j]? = some oj → j ≠ i → l.getD j true = false → (∀ e ∈ oj.after, Region.binds md e = true → e.on ≠ i) → oi.apart ops oj = true) →
      i ∈ Region.ready md ops l → Shutd md ops l → ((∀ w', (Region.wanted oi (yielded ops a.tmps) = true → (execOp a.eval oi).run P w' = .ok (.value v) w') ∧ (Region.wanted oi (yielded ops a.tmps) = false → v = undef)) ∨ (From P ops oi v a w ∧ ∀ j oj, ops[j]? = some oj → D j = true → l.getD j true = false → waitsOn md ops c j i = true)) →
      wpAnyR P md ops Q D f (l.setIfInBounds i true) (a.put oi.dst v) w → wpAnyR P md ops Q D (f + 1) l a w := by
  intro f
  induction f with
  | zero =>
    intro l a w _ hr _ hy H
    have hy' : YieldsIf P ops (fun w' => w' = w) oi v a := by
      rcases hy with hy | ⟨hy, _⟩
      · cases hw : Region.wanted oi (yielded ops a.tmps)
        · exact .inr ⟨hw, (hy w).2 hw⟩
        · exact .inl ⟨hw, fun w' _ => (hy w').1 hw⟩
      · exact hy.imp (fun ⟨h1, h2⟩ => ⟨h1, fun w' e => h2 w' (e ▸ Ag.refl _ _)⟩) id
    refine ⟨fun h => (by rw [h] at hr; cases hr), fun j hj => ?_⟩
    by_cases hji : j = i
    · subst hji; exact hy'.wpOp hi rfl ⟨fun _ => Ag.refl _ _, H⟩
    · have := ready_mono hj hji
      rw [H.1] at this
      cases this
  | succ f ih =>
    intro l a w hfree hr hs hy H
    have hy' : YieldsIf P ops (fun w' => w' = w) oi v a := by
      rcases hy with hy | ⟨hy, _⟩
      · cases hw : Region.wanted oi (yielded ops a.tmps)
        · exact .inr ⟨hw, (hy w).2 hw⟩
        · exact .inl ⟨hw, fun w' _ => (hy w').1 hw⟩
      · exact hy.imp (fun ⟨h1, h2⟩ => ⟨h1, fun w' e => h2 w' (e ▸ Ag.refl _ _)⟩) id
    refine ⟨fun h => (by rw [h] at hr; cases hr), fun j hj => ?_⟩
    by_cases hji : j = i
    · subst hji; exact hy'.wpOp hi rfl ⟨fun _ => Ag.refl _ _, H⟩
    · have h1 := H.2 j (ready_mono hj hji)
      obtain ⟨hjun, oj, hoj, hall⟩ := mem_ready.1 hj
      have hiun := (mem_ready.1 hr).1
      have hnot : ∀ e ∈ oj.after, Region.binds md e = true → e.on ≠ i := fun e he hb heq => by
        have h1 := hall e he hb
        rw [heq] at h1
        rcases Nat.lt_or_ge i l.size with h' | h'
        · simp [h'] at hiun h1; rw [hiun] at h1; cases h1
        · simp [Array.getElem?_eq_none h'] at h1
      have hclosed := hs.list hj
      have hapart := hfree j oj hoj hji hjun hnot
      have hfree' : ∀ k ok, ops[k]? = some ok → k ≠ i → (l.setIfInBounds j true).getD k true = false →
          (∀ e ∈ ok.after, Region.binds md e = true → e.on ≠ i) → oi.apart ops ok = true := fun k ok hk hki hun hno => by
        refine hfree k ok hk hki ?_ hno
        by_cases hjk : j = k
        · subst hjk; exact hjun
        · rw [getD_set_ne true hjk] at hun; exact hun
      rcases hy with hy | ⟨hy, hD⟩
      · have hyT : YieldsIf P ops (fun _ => True) oi v a := by
          cases hw : Region.wanted oi (yielded ops a.tmps)
          · exact .inr ⟨hw, (hy w).2 hw⟩
          · exact .inl ⟨hw, fun w' _ => (hy w').1 hw⟩
        have h2 := wpOp_putIf hoj hapart (fun cs b => hsel i oi cs b hi) (fun cs b => hsel j oj cs b hoj) hQ hyT h1
        refine wpOp_mono (fun a' w' h3 => ⟨h3.2.1, ih (l.setIfInBounds j true) a' w' hfree' (ready_mono hr (Ne.symm hji)) hclosed (.inl fun w1 => ?_) ?_⟩) h2
        · rcases h3.1 with ⟨q1, q2⟩ | ⟨q1, q2⟩
          · exact ⟨fun _ => q2 w1 trivial, fun h => by rw [q1] at h; cases h⟩
          · exact ⟨fun h => (by rw [q1] at h; cases h), fun _ => q2⟩
        · rw [Array.setIfInBounds_comm _ _ hji]
          exact h3.2.2
      · have hDj : D j = false := by
          cases hd : D j with
          | false => rfl
          | true => exact absurd hj (not_ready_of_waits hs (by
              rcases Nat.lt_or_ge i l.size with h' | h'
              · simp [h'] at hiun; simp [Array.getD, h', hiun]
              · simp [Array.getElem?_eq_none h'] at hiun) (hD j oj hoj hd (by
                rcases Nat.lt_or_ge j l.size with h' | h'
                · simp [h'] at hjun; simp [Array.getD, h', hjun]
                · simp [Array.getElem?_eq_none h'] at hjun)))
        have h2 := wpOp_putIf hoj hapart (fun cs b => hsel i oi cs b hi) (fun cs b => hsel j oj cs b hoj) hQ hy h1
        refine wpOp_mono (fun a' w' h3 => ⟨h3.2.1, ih (l.setIfInBounds j true) a' w' hfree' (ready_mono hr (Ne.symm hji)) hclosed (.inr ⟨From.later h3.1 (h3.2.1 hDj), fun k ok hk hdk hun => ?_⟩) ?_⟩) h2
        · refine hD k ok hk hdk ?_
          by_cases hjk : j = k
          · subst hjk
            rw [hDj] at hdk
            cases hdk
          · rw [getD_set_ne true hjk] at hun; exact hun
        · rw [Array.setIfInBounds_comm _ _ hji]
          exact h3.2.2
theorem oneR {i : Nat} {oi : Oper} {f : Nat} {l : Array Bool} {a : Act} {w : World} (hi : ops[i]? = some oi) (hr : Region.ready md ops l = [i])
    (h : wpOp P ops Q i (fun a' w' => (D i = false → Ag (fun _ => False) w w') ∧ wpAnyR P md ops Q D f (l.setIfInBounds i true) a' w') a w) : wpAnyR P md ops Q D (f + 1) l a w := by
  refine ⟨fun h0 => (by rw [hr] at h0; cases h0), fun j hj => ?_⟩
  rw [hr] at hj
  have hji : j = i := by simpa using hj
  subst hji
  exact h
theorem doneR {l : Array Bool} {a : Act} {w : World} (hr : Region.ready md ops l = []) (h : Q .normal a w) : ∀ f, wpAnyR P md ops Q D f l a w
  | 0 => ⟨hr, h⟩
  | _ + 1 => ⟨fun _ => h, by rw [hr]; simp⟩
end
end Go.Proofs.Ythbojpaghbbnnaa.Z
namespace Go.Proofs.Ythbojpaghbbnnaa.Z
open Go Go.RowKit
set_option linter.unusedVariables false
set_option linter.unusedSimpArgs false

theorem length_setn {α : Type} (y : α) : ∀ (l : List α) (i : Nat), (setn y l i).length = l.length
  | [], _ => rfl
  | _ :: _, 0 => rfl
  | _ :: l, i + 1 => by simp [setn, length_setn y l i]
theorem atn_setn {α : Type} (d y : α) : ∀ (l : List α) (i j : Nat), atn d (setn y l i) j = if i = j ∧ i < l.length then y else atn d l j
  | [], i, j => by simp [setn, atn]
  | x :: l, 0, 0 => by simp [setn, atn]
  | x :: l, 0, j + 1 => by simp [setn, atn]
  | x :: l, i + 1, 0 => by simp [setn, atn]
  | x :: l, i + 1, j + 1 => by
    have := atn_setn d y l i j
    simp only [setn, atn, this, List.length_cons]
    by_cases h : i = j ∧ i < l.length
    · rw [if_pos h, if_pos ⟨by omega, by omega⟩]
    · rw [if_neg h, if_neg (by omega)]
theorem length_mapn {α : Type} (f : α → α) : ∀ l : List α, (mapn f l).length = l.length
  | [] => rfl
  | _ :: l => by simp [mapn, length_mapn f l]
theorem atn_mapn {α : Type} (d : α) (f : α → α) (hd : f d = d) : ∀ (l : List α) (i : Nat), atn d (mapn f l) i = f (atn d l i)
  | [], _ => hd.symm
  | _ :: _, 0 => rfl
  | _ :: l, i + 1 => atn_mapn d f hd l i
theorem atn_out {α : Type} (d : α) : ∀ (l : List α) (i : Nat), l.length ≤ i → atn d l i = d
  | [], _, _ => rfl
  | _ :: l, 0, h => by simp at h
  | _ :: l, i + 1, h => atn_out d l i (by simpa using h)
theorem atn_append {α : Type} (d : α) : ∀ (l r : List α) (i : Nat), atn d (l ++ r) i = if i < l.length then atn d l i else atn d r (i - l.length)
  | [], r, i => by simp
  | x :: l, r, 0 => by simp [atn]
  | x :: l, r, i + 1 => by
    have := atn_append d l r i
    simp only [List.cons_append, atn, this, List.length_cons]
    by_cases h : i < l.length
    · rw [if_pos h, if_pos (by omega)]
    · rw [if_neg h, if_neg (by omega), show i + 1 - (l.length + 1) = i - l.length by omega]

theorem atn_mem {α : Type} (d : α) : ∀ (l : List α) (i : Nat), i < l.length → atn d l i ∈ l
  | [], _, h => by simp at h
  | _ :: _, 0, _ => by simp [atn]
  | _ :: l, i + 1, h => List.mem_cons_of_mem _ (atn_mem d l i (by simpa using h))
def nilV : Value := .slice none 0 0
def blk : Value → Option Nat
  | .slice (some a) _ _ => some a.block
  | .pointer (some a) => some a.block
  | _ => none
def Us (U0 : Nat → Prop) (n : Nat) (hd : Nat → Value) : Nat → Prop := fun b => U0 b ∨ ∃ i, i < n ∧ blk (hd i) = some b
def RA (ρ : Obs) (U : Nat → Prop) (w : World) (hd : Nat → Value) : A → Value → Prop
  | .un, _ => True
  | .und, v => v = undef
  | .v t x, v => IRd ρ U w t v x
  | .nls, v => v = .slice none 0 0
  | .nlp, v => v = .pointer none
  | .row i, v => v = hd i
  | .cut i n full, v => ∃ a l c c', hd i = .slice a l c ∧ n ≤ l ∧ v = .slice a n c' ∧ n ≤ c' ∧ (full = true → c' = c)
  | .adr i j k s _, v => ∃ b l c, hd i = .slice (some ⟨b, 0, none⟩) l c ∧ j < l ∧ v = .pointer (some ⟨b, j * s + k, none⟩)
  | .ref t x, v => ∃ b off cs, v = .pointer (some ⟨b, off, none⟩) ∧ ICs ρ U w t cs x ∧ ∀ w', Ag U w w' → ∀ j, j < t.size → w'.cell? ⟨b, off + j, none⟩ = cs[j]?
  | .box i k, v => ∃ b, hd i = .pointer (some ⟨b, 0, none⟩) ∧ v = .pointer (some ⟨b, k, none⟩)
  | .tnil, v => v = .tuple #[]
  | .tcons a b, v => ∃ x xs, v = .tuple (x :: xs).toArray ∧ RA ρ U w hd a x ∧ RA ρ U w hd b (.tuple xs.toArray)
  | .str a, v => ∃ xs, v = .agg (List.toArray xs) ∧ (∀ x ∈ xs, x.oneCell' = true) ∧ RA ρ U w hd a (.tuple xs.toArray)
theorem RA.tr {ρ : Obs} {U U' : Nat → Prop} {w w' : World} {hd hd' : Nat → Value} (k : Tr U w U' w') : ∀ {x : A} {v : Value}, (∀ i ∈ x.refs, hd' i = hd i) → RA ρ U w hd x v → RA ρ U' w' hd' x v
  | .un, _, _, _ => trivial
  | .und, _, _, h => h
  | .v _ _, _, _, h => IRd.tr h k
  | .nls, _, _, h => h
  | .nlp, _, _, h => h
  | .row i, v, hr, h => by
    have := hr i (by simp [A.refs])
    simp only [RA] at h ⊢
    rw [this]
    exact h
  | .cut i n f, v, hr, h => by
    have := hr i (by simp [A.refs])
    simp only [RA] at h ⊢
    rw [this]
    exact h
  | .adr i _ _ _ _, v, hr, h => by
    have := hr i (by simp [A.refs])
    simp only [RA] at h ⊢
    rw [this]
    exact h
  | .ref _ _, _, _, ⟨b, off, cs, e, h1, h2⟩ => ⟨b, off, cs, e, ICs.tr k h1, fun w'' hw => h2 w'' (k w'' hw)⟩
  | .box i _, v, hr, h => by
    have := hr i (by simp [A.refs])
    simp only [RA] at h ⊢
    rw [this]
    exact h
  | .tnil, _, _, h => h
  | .tcons a b, _, hr, ⟨x, xs, e, h1, h2⟩ => ⟨x, xs, e, RA.tr k (fun i hi => hr i (by simp [A.refs, hi])) h1, RA.tr k (fun i hi => hr i (by simp [A.refs, hi])) h2⟩
  | .str a, _, hr, ⟨xs, e, h1, h2⟩ => ⟨xs, e, h1, RA.tr k (x := a) hr h2⟩
def RO (ρ : Obs) (U : Nat → Prop) (w : World) (hd : Nat → Value) (B : Nat) : Ob → Value → Prop
  | .row e t xs, v => ∃ cs, w.ownsRow B e t.size v xs.length cs ∧ Els (ICs ρ U w t) cs xs
  | .cells e l, v => ∃ b vs, v = .pointer (some ⟨b, 0, none⟩) ∧ B ≤ b ∧ w.heap[b]? = some (.cells (List.toArray vs) e (0, 0)) ∧ vs.length = l.length ∧ ∀ i, i < l.length → ∃ x, vs[i]? = some x ∧ x.oneCell' = true ∧ RA ρ U w hd (atn .un l i) x
  | .gone, v => v = nilV
theorem own_of_block {w w' : World} {B sz n : Nat} {e : TypeId} {v : Value} {cs : List Value} (h : w.ownsRow B e sz v n cs) (hb : ∀ b, blk v = some b → w'.heap[b]? = w.heap[b]?) : w'.ownsRow B e sz v n cs := by
  obtain ⟨h1, h2⟩ := h
  refine ⟨h1, h2.imp id ?_⟩
  rintro ⟨g, cap, cur, e1, e2, e3, e4⟩
  exact ⟨g, cap, cur, e1, e2, (hb g (by rw [e1]; rfl)).trans e3, e4⟩
theorem own_blk {w : World} {B sz n : Nat} {e : TypeId} {v : Value} {cs : List Value} (h : w.ownsRow B e sz v n cs) {b : Nat} (hb : blk v = some b) : B ≤ b ∧ b < w.heap.size := by
  obtain ⟨h1, ⟨rfl, _⟩ | ⟨g, cap, cur, rfl, e2, e3, e4⟩⟩ := h
  · simp [blk] at hb
  · have : g = b := by simpa [blk] using hb
    subst this
    exact ⟨e2, (Array.getElem?_eq_some_iff.1 e3).1⟩
theorem RO.blk_ge {ρ : Obs} {U : Nat → Prop} {w : World} {hd : Nat → Value} {B : Nat} {o : Ob} {v : Value} (h : RO ρ U w hd B o v) {b : Nat} (hb : blk v = some b) : B ≤ b ∧ b < w.heap.size := by
  cases o with
  | row e t xs => obtain ⟨cs, h1, _⟩ := h; exact own_blk h1 hb
  | cells e l =>
    obtain ⟨b', vs, rfl, h1, h2, _⟩ := h
    have : b' = b := by simpa [blk] using hb
    subst this
    exact ⟨h1, (Array.getElem?_eq_some_iff.1 h2).1⟩
  | gone => simp only [RO] at h; rw [h] at hb; simp [blk, nilV] at hb
theorem RO.tr {ρ : Obs} {U U' : Nat → Prop} {w w' : World} {hd hd' : Nat → Value} {B : Nat} {o : Ob} {v : Value} (k : Tr U w U' w') (hr : ∀ i ∈ o.refs, hd' i = hd i) (hb : ∀ b, blk v = some b → w'.heap[b]? = w.heap[b]?) (h : RO ρ U w hd B o v) : RO ρ U' w' hd' B o v := by
  cases o with
  | row e t xs =>
    obtain ⟨cs, h1, h2⟩ := h
    exact ⟨cs, own_of_block h1 hb, h2.mono (fun c x q => ICs.tr k q)⟩
  | cells e l =>
    obtain ⟨b, vs, rfl, h1, h2, h3, h4⟩ := h
    refine ⟨b, vs, rfl, h1, (hb b rfl).trans h2, h3, fun i hi => ?_⟩
    obtain ⟨x, hx, ho, hxr⟩ := h4 i hi
    refine ⟨x, hx, ho, RA.tr k (fun j hj => hr j ?_) hxr⟩
    exact List.mem_flatMap.2 ⟨_, atn_mem _ l i hi, hj⟩
  | gone => exact h

/-- The state st tells the state a, w; hd: where the objects lie. -/
structure Rel (ρ : Obs) (w0 : World) (U0 : Nat → Prop) (own : Nat) (fx : Nat → Bool) (hd0 : Nat → Value) (st : St) (a : Act) (w : World) (hd : Nat → Value) : Prop where
  sz : a.tmps.size = st.tm.length
  df : a.defers = []
  sl : ∀ i v, a.tmps[i]? = some v → RA ρ (Us U0 st.ob.length hd) w hd (atn .un st.tm i) v
  ob : ∀ i, i < st.ob.length → RO ρ (Us U0 st.ob.length hd) w hd (if i < own then 0 else w0.heap.size) (atn .gone st.ob i) (hd i)
  ne : ∀ i j, i < st.ob.length → j < st.ob.length → i ≠ j → ∀ b, blk (hd i) = some b → blk (hd j) ≠ some b
  keep : ∀ i, i < own → fx i = true → hd i = hd0 i
  kp : ∀ i, i < own → ∀ b, blk (hd i) = some b → blk (hd0 i) = some b ∨ w0.heap.size ≤ b
  ow : own ≤ st.ob.length
  ag : Ag (Us (fun _ => False) own hd0) w0 w
  u0 : ∀ b, U0 b → b < w0.heap.size ∧ ∀ i, i < own → blk (hd0 i) ≠ some b
  wt : ∀ i, ∀ j ∈ (atn .un st.tm i).refs, j < st.ob.length
  wo : ∀ i, ∀ j ∈ (atn .gone st.ob i).refs, j < st.ob.length
section
variable {ρ : Obs} {w0 : World} {U0 : Nat → Prop} {own : Nat} {fx : Nat → Bool} {hd0 : Nat → Value} {st : St} {a : Act} {w : World} {hd : Nat → Value}
theorem Rel.lt (h : Rel ρ w0 U0 own fx hd0 st a w hd) {i b : Nat} (hi : i < st.ob.length) (hb : blk (hd i) = some b) : b < w.heap.size := ((h.ob i hi).blk_ge hb).2
theorem Rel.ge (h : Rel ρ w0 U0 own fx hd0 st a w hd) {i b : Nat} (hi : i < st.ob.length) (ho : own ≤ i) (hb : blk (hd i) = some b) : w0.heap.size ≤ b := by
  have := ((h.ob i hi).blk_ge hb).1
  rwa [if_neg (by omega)] at this
theorem Rel.u0n (h : Rel ρ w0 U0 own fx hd0 st a w hd) {i b : Nat} (hi : i < st.ob.length) (hb : blk (hd i) = some b) : ¬ U0 b := by
  intro hu
  obtain ⟨h1, h2⟩ := h.u0 b hu
  rcases Nat.lt_or_ge i own with ho | ho
  · rcases h.kp i ho b hb with hb | hb
    · exact h2 i ho hb
    · omega
  · have := h.ge hi ho hb
    omega
theorem Rel.ev_ (h : Rel ρ w0 U0 own fx hd0 st a w hd) (x : Operand) : RA ρ (Us U0 st.ob.length hd) w hd (ev st x) (a.eval x) := by
  cases x with
  | tmp t =>
    simp only [ev, Act.eval]
    rcases Nat.lt_or_ge t a.tmps.size with h1 | h1
    · have := h.sl t a.tmps[t] (Array.getElem?_eq_getElem h1)
      simpa [Array.getD, h1] using this
    · rw [atn_out _ _ _ (by rw [← h.sz]; exact h1)]
      trivial
  | const v =>
    simp only [ev, Act.eval]
    unfold lit
    split
    · exact ⟨_, rfl, rfl⟩
    · exact ⟨_, rfl, rfl⟩
    · exact ⟨_, rfl, rfl⟩
    · rfl
    · rfl
    · trivial
  | global g => trivial
  | func f => trivial
theorem put_tmps (d : Option Tmp) (v : Value) (i : Nat) (u : Value) (hu : (a.put d v).tmps[i]? = some u) : (d = some i ∧ u = v) ∨ a.tmps[i]? = some u := by
  cases d with
  | none => exact .inr hu
  | some d =>
    simp only [Act.put, Array.getElem?_setIfInBounds] at hu
    by_cases e : d = i
    · rw [if_pos e] at hu
      by_cases hs : d < a.tmps.size
      · rw [if_pos hs] at hu
        exact .inl ⟨by rw [e], by injection hu with hu; exact hu.symm⟩
      · rw [if_neg hs] at hu; cases hu
    · rw [if_neg e] at hu
      exact .inr hu
theorem size_put (d : Option Tmp) (v : Value) : (a.put d v).tmps.size = a.tmps.size := by cases d <;> simp [Act.put]
theorem put_ob (st : St) (d : Option Tmp) (x : A) : (st.put d x).ob = st.ob := by cases d <;> rfl
theorem put_len (st : St) (d : Option Tmp) (x : A) : (st.put d x).tm.length = st.tm.length := by cases d <;> simp [St.put, length_setn]
/-- A temporary gets a value. -/
theorem put_refs (st : St) (d : Option Tmp) (x : A) {n : Nat} (h : ∀ i, ∀ j ∈ (atn .un st.tm i).refs, j < n) (hx : ∀ j ∈ x.refs, j < n) : ∀ i, ∀ j ∈ (atn .un (st.put d x).tm i).refs, j < n := by
  intro i j hj
  cases d with
  | none => exact h i j hj
  | some d =>
    simp only [St.put, atn_setn] at hj
    split at hj
    · exact hx j hj
    · exact h i j hj
theorem Rel.put (h : Rel ρ w0 U0 own fx hd0 st a w hd) {x : A} {v : Value} (hx : RA ρ (Us U0 st.ob.length hd) w hd x v) (hxr : ∀ j ∈ x.refs, j < st.ob.length) (d : Option Tmp) : Rel ρ w0 U0 own fx hd0 (st.put d x) (a.put d v) w hd := by
  refine ⟨by rw [size_put, put_len]; exact h.sz, by cases d <;> exact h.df, fun i u hu => ?_, by rw [put_ob]; exact h.ob, by rw [put_ob]; exact h.ne, h.keep, h.kp, by rw [put_ob]; exact h.ow, h.ag, h.u0, by rw [put_ob]; exact put_refs st d x h.wt hxr, by rw [put_ob]; exact h.wo⟩
  rw [put_ob]
  rcases put_tmps d v i u hu with ⟨rfl, rfl⟩ | hu'
  · have hs : i < st.tm.length := by
      rw [← h.sz]
      have := (Array.getElem?_eq_some_iff.1 hu).1
      rwa [size_put] at this
    simp only [St.put, atn_setn, hs, and_self, if_true]
    exact hx
  · cases d with
    | none => exact h.sl i u hu'
    | some d =>
      simp only [St.put, atn_setn]
      split
      · rename_i hc
        obtain ⟨rfl, hc⟩ := hc
        have := (put_tmps (a := a) (some d) v d v (by simp [Act.put, h.sz, hc]))
        have e : u = v := by
          simp only [Act.put, Array.getElem?_setIfInBounds, h.sz, hc, if_true] at hu
          injection hu with hu
          exact hu.symm
        rw [e]
        exact hx
      · exact h.sl i u hu'
/-- Memory grows; nothing that was there turns. -/
theorem Rel.grow (h : Rel ρ w0 U0 own fx hd0 st a w hd) {w' : World} (k : Ag (fun _ => False) w w') : Rel ρ w0 U0 own fx hd0 st a w' hd := by
  have ht : Tr (Us U0 st.ob.length hd) w (Us U0 st.ob.length hd) w' := Tr.of k (fun _ _ h => h.elim) (fun _ _ h => h)
  exact ⟨h.sz, h.df, fun i v hv => RA.tr ht (fun _ _ => rfl) (h.sl i v hv), fun i hi => RO.tr ht (fun _ _ => rfl) (fun b hb => k.block b (h.lt hi hb) (fun h => h)) (h.ob i hi), h.ne, h.keep, h.kp, h.ow,
    h.ag.trans (k.mono (fun _ _ h => h.elim)), h.u0, h.wt, h.wo⟩
/-- An object more. -/
theorem Rel.new (h : Rel ρ w0 U0 own fx hd0 st a w hd) {w' : World} (k : Ag (fun _ => False) w w') {o : Ob} {v : Value} (hd' : Nat → Value) (hlt : ∀ i, i < st.ob.length → hd' i = hd i) (hn : hd' st.ob.length = v)
    (hor : ∀ j ∈ o.refs, j < st.ob.length)
    (hb : ∀ b, blk v = some b → w.heap.size ≤ b) (ho : RO ρ (Us U0 (st.ob.length + 1) hd') w' hd' w0.heap.size o v) : Rel ρ w0 U0 own fx hd0 ⟨st.tm, st.ob ++ [o]⟩ a w' hd' := by
  have hU : ∀ b, b < w.heap.size → Us U0 (st.ob.length + 1) hd' b → Us U0 st.ob.length hd b := by
    rintro b hbl (hu | ⟨i, hi, hib⟩)
    · exact .inl hu
    · rcases Nat.lt_or_ge i st.ob.length with h1 | h1
      · exact .inr ⟨i, h1, by rw [← hlt i h1]; exact hib⟩
      · have : i = st.ob.length := by omega
        subst this
        rw [hn] at hib
        have := hb b hib
        omega
  have ht : Tr (Us U0 st.ob.length hd) w (Us U0 (st.ob.length + 1) hd') w' := Tr.of k (fun _ _ h => h.elim) hU
  refine ⟨h.sz, h.df, fun i u hu => ?_, fun i hi => ?_, fun i j hi hj hij b hbi hbj => ?_, fun i hi hf => ?_, fun i hi b hb' => ?_, ?_, h.ag.trans (k.mono (fun _ _ h => h.elim)), h.u0, fun i j hj => ?_, fun i j hj => ?_⟩
  · simp only [List.length_append, List.length_singleton]
    exact RA.tr ht (fun j hj => hlt j (h.wt i j hj)) (h.sl i u hu)
  · simp only [List.length_append, List.length_singleton] at hi ⊢
    rw [atn_append]
    rcases Nat.lt_or_ge i st.ob.length with h1 | h1
    · rw [if_pos h1, hlt i h1]
      exact RO.tr ht (fun j hj => hlt j (h.wo i j hj)) (fun b hb => k.block b (h.lt h1 hb) (fun h => h)) (h.ob i h1)
    · have : i = st.ob.length := by omega
      subst this
      rw [if_neg (Nat.not_lt.2 h.ow), if_neg (Nat.lt_irrefl _), Nat.sub_self, hn]
      exact ho
  · simp only [List.length_append, List.length_singleton] at hi hj
    rcases Nat.lt_or_ge i st.ob.length with h1 | h1
    · rw [hlt i h1] at hbi
      rcases Nat.lt_or_ge j st.ob.length with h2 | h2
      · rw [hlt j h2] at hbj
        exact h.ne i j h1 h2 hij b hbi hbj
      · have : j = st.ob.length := by omega
        subst this
        rw [hn] at hbj
        have := hb b hbj
        have := h.lt h1 hbi
        omega
    · have : i = st.ob.length := by omega
      subst this
      rw [hn] at hbi
      have h2 : j < st.ob.length := by omega
      rw [hlt j h2] at hbj
      have := hb b hbi
      have := h.lt h2 hbj
      omega
  · rw [hlt i (by have := h.ow; omega)]
    exact h.keep i hi hf
  · rw [hlt i (by have := h.ow; omega)] at hb'
    exact h.kp i hi b hb'
  · simp only [List.length_append, List.length_singleton]
    have := h.ow
    omega
  · simp only [List.length_append, List.length_singleton]
    have := h.wt i j hj
    omega
  · simp only [List.length_append, List.length_singleton]
    rw [atn_append] at hj
    split at hj
    · have := h.wo i j hj
      omega
    · have := hor j (by
        rcases Nat.eq_zero_or_pos (i - st.ob.length) with e | e
        · rw [e] at hj; exact hj
        · rw [atn_out _ _ _ (by simp; omega)] at hj
          simp [Ob.refs] at hj)
      omega
theorem frz_un (o : Ob) (i : Nat) : A.frz o i .un = .un := rfl
theorem ofrz_gone (o : Ob) (i : Nat) : Ob.frz o i .gone = .gone := rfl
theorem frz_refs {o : Ob} {m : Nat} : ∀ {x : A} {j : Nat}, j ∈ (A.frz o m x).refs → j ∈ x.refs ∧ j ≠ m
  | .row i, j, h => by
    simp only [A.frz] at h
    split at h
    · split at h <;> simp [A.refs] at h
    · rename_i hne
      simp [A.refs] at h
      subst h
      exact ⟨by simp [A.refs], hne⟩
  | .cut i n f, j, h => by
    simp only [A.frz] at h
    split at h
    · split at h <;> simp [A.refs] at h
    · rename_i hne
      simp [A.refs] at h
      subst h
      exact ⟨by simp [A.refs], hne⟩
  | .adr i _ _ _ _, j, h => by
    simp only [A.frz] at h
    split at h
    · simp [A.refs] at h
    · rename_i hne
      simp [A.refs] at h
      subst h
      exact ⟨by simp [A.refs], hne⟩
  | .box i _, j, h => by
    simp only [A.frz] at h
    split at h
    · simp [A.refs] at h
    · rename_i hne
      simp [A.refs] at h
      subst h
      exact ⟨by simp [A.refs], hne⟩
  | .tcons a b, j, h => by
    simp only [A.frz, A.refs, List.mem_append] at h ⊢
    rcases h with h | h
    · have := frz_refs h; exact ⟨.inl this.1, this.2⟩
    · have := frz_refs h; exact ⟨.inr this.1, this.2⟩
  | .str a, j, h => frz_refs (x := a) h
  | .un, _, h => by simp [A.frz, A.refs] at h
  | .und, _, h => by simp [A.frz, A.refs] at h
  | .v _ _, _, h => by simp [A.frz, A.refs] at h
  | .nls, _, h => by simp [A.frz, A.refs] at h
  | .nlp, _, h => by simp [A.frz, A.refs] at h
  | .ref _ _, _, h => by simp [A.frz, A.refs] at h
  | .tnil, _, h => by simp [A.frz, A.refs] at h
theorem mapn_mem {α : Type} (f : α → α) : ∀ {l : List α} {y : α}, y ∈ mapn f l → ∃ x ∈ l, f x = y
  | _ :: l, y, h => by
    simp only [mapn, List.mem_cons] at h
    rcases h with h | h
    · exact ⟨_, List.mem_cons_self .., h.symm⟩
    · obtain ⟨x, hx, e⟩ := mapn_mem f h
      exact ⟨x, List.mem_cons_of_mem _ hx, e⟩
theorem ofrz_refs {o : Ob} {m : Nat} {x : Ob} {j : Nat} (h : j ∈ (Ob.frz o m x).refs) : j ∈ x.refs ∧ j ≠ m := by
  cases x with
  | row e t xs => simp [Ob.frz, Ob.refs] at h
  | gone => simp [Ob.frz, Ob.refs] at h
  | cells e l =>
    simp only [Ob.frz, Ob.refs, List.mem_flatMap] at h ⊢
    obtain ⟨y, hy, hj⟩ := h
    obtain ⟨x, hx, rfl⟩ := mapn_mem _ hy
    have := frz_refs hj
    exact ⟨⟨x, hx, this.1⟩, this.2⟩
/-- Where the row's content is known for ever (or nothing of it is asked), what was known of the rest holds. -/
theorem RA.frz {U' : Nat → Prop} {w' : World} {U : Nat → Prop} {hd' : Nat → Value} {o : Ob} {m : Nat} (k : Tr U w U' w') (hne : ∀ i, i ≠ m → hd' i = hd i)
    (ho : ∀ e t xs, o = .row e t xs → IRd ρ U' w' (.list t) (hd m) xs ∧ ∀ n a l c c', hd m = .slice a l c → n ≤ l → n ≤ c' → IRd ρ U' w' (.list t) (.slice a n c') (List.take n xs)) :
    ∀ {x : A} {v : Value}, RA ρ U w hd x v → RA ρ U' w' hd' (A.frz o m x) v
  | .row i, v, h => by
    simp only [A.frz]
    split
    · rename_i e
      subst e
      simp only [RA] at h
      subst h
      split
      · exact (ho _ _ _ rfl).1
      · trivial
    · rename_i e
      simp only [RA] at h ⊢
      rw [hne i e]
      exact h
  | .cut i n f, v, h => by
    simp only [A.frz]
    split
    · rename_i e
      subst e
      obtain ⟨a, l, c, c', h1, h2, rfl, h3, _⟩ := h
      split
      · exact (ho _ _ _ rfl).2 n a l c c' h1 h2 h3
      · trivial
    · rename_i e
      simp only [RA] at h ⊢
      rw [hne i e]
      exact h
  | .adr i _ _ _ _, v, h => by
    simp only [A.frz]
    split
    · trivial
    · rename_i e
      simp only [RA] at h ⊢
      rw [hne i e]
      exact h
  | .box i _, v, h => by
    simp only [A.frz]
    split
    · trivial
    · rename_i e
      simp only [RA] at h ⊢
      rw [hne i e]
      exact h
  | .tcons a b, v, ⟨x, xs, e, h1, h2⟩ => ⟨x, xs, e, RA.frz k hne ho h1, RA.frz k hne ho h2⟩
  | .str a, v, ⟨xs, e, h1, h2⟩ => ⟨xs, e, h1, RA.frz k hne ho (x := a) h2⟩
  | .un, _, _ => trivial
  | .und, _, h => h
  | .v _ _, _, h => IRd.tr h k
  | .nls, _, h => h
  | .nlp, _, h => h
  | .ref _ _, _, ⟨b, off, cs, e, h1, h2⟩ => ⟨b, off, cs, e, ICs.tr k h1, fun w'' hw => h2 w'' (k w'' hw)⟩
  | .tnil, _, h => h
theorem RO.frz {U' : Nat → Prop} {w' : World} {U : Nat → Prop} {hd' : Nat → Value} {o : Ob} {m B : Nat} (k : Tr U w U' w') (hne : ∀ i, i ≠ m → hd' i = hd i)
    (ho : ∀ e t xs, o = .row e t xs → IRd ρ U' w' (.list t) (hd m) xs ∧ ∀ n a l c c', hd m = .slice a l c → n ≤ l → n ≤ c' → IRd ρ U' w' (.list t) (.slice a n c') (List.take n xs))
    {x : Ob} {v : Value} (hb : ∀ b, blk v = some b → w'.heap[b]? = w.heap[b]?) (h : RO ρ U w hd B x v) : RO ρ U' w' hd' B (Ob.frz o m x) v := by
  cases x with
  | row e t xs =>
    obtain ⟨cs, h1, h2⟩ := h
    exact ⟨cs, own_of_block h1 hb, h2.mono (fun c x q => ICs.tr k q)⟩
  | cells e l =>
    obtain ⟨b, vs, rfl, h1, h2, h3, h4⟩ := h
    refine ⟨b, vs, rfl, h1, (hb b rfl).trans h2, by rw [length_mapn]; exact h3, fun i hi => ?_⟩
    rw [length_mapn] at hi
    obtain ⟨x, hx, ho', hxr⟩ := h4 i hi
    refine ⟨x, hx, ho', ?_⟩
    rw [atn_mapn _ _ (frz_un o m)]
    exact RA.frz k hne ho hxr
  | gone => exact h
/-- Object m becomes another one; o: what is left of the old one's content. -/
theorem Rel.turn (h : Rel ρ w0 U0 own fx hd0 st a w hd) {m : Nat} (hm : m < st.ob.length) {w' : World} (hag : Ag (fun b => blk (hd m) = some b) w w') {o o' : Ob} {v' : Value} (hd' : Nat → Value) (hne : ∀ i, i ≠ m → hd' i = hd i) (hv : hd' m = v')
    (hown : m < own → fx m = true → v' = hd m) (hbl : ∀ b, blk v' = some b → blk (hd m) = some b ∨ w.heap.size ≤ b) (hor : ∀ j ∈ o'.refs, j < st.ob.length)
    (ho : ∀ e t xs, o = .row e t xs → IRd ρ (Us U0 st.ob.length hd') w' (.list t) (hd m) xs ∧ ∀ n a l c c', hd m = .slice a l c → n ≤ l → n ≤ c' → IRd ρ (Us U0 st.ob.length hd') w' (.list t) (.slice a n c') (List.take n xs))
    (hro : RO ρ (Us U0 st.ob.length hd') w' hd' (if m < own then 0 else w0.heap.size) o' v') :
    Rel ρ w0 U0 own fx hd0 ⟨mapn (A.frz o m) st.tm, setn o' (mapn (Ob.frz o m) st.ob) m⟩ a w' hd' := by
  have hU : ∀ b, b < w.heap.size → Us U0 st.ob.length hd' b → Us U0 st.ob.length hd b := by
    rintro b hb (hu | ⟨i, hi, hib⟩)
    · exact .inl hu
    · by_cases e : i = m
      · subst e
        rw [hv] at hib
        rcases hbl b hib with h1 | h1
        · exact .inr ⟨i, hi, h1⟩
        · omega
      · exact .inr ⟨i, hi, by rw [← hne i e]; exact hib⟩
  have ht : Tr (Us U0 st.ob.length hd) w (Us U0 st.ob.length hd') w' := Tr.of hag (fun b _ hb => .inr ⟨m, hm, hb⟩) hU
  have hlen : (setn o' (mapn (Ob.frz o m) st.ob) m).length = st.ob.length := by rw [length_setn, length_mapn]
  have hoth : ∀ i, i < st.ob.length → i ≠ m → ∀ b, blk (hd i) = some b → w'.heap[b]? = w.heap[b]? := fun i hi e b hb => hag.block b (h.lt hi hb) (fun hb' => h.ne i m hi hm e b hb hb')
  refine ⟨by rw [length_mapn]; exact h.sz, h.df, fun i v hv => ?_, fun i hi => ?_, fun i j hi hj hij b hbi hbj => ?_, fun i hi hf => ?_, fun i hi b hib => ?_, by rw [hlen]; exact h.ow, ?_, h.u0, fun i j hj => ?_, fun i j hj => ?_⟩
  · rw [hlen, atn_mapn _ _ (frz_un o m)]
    exact RA.frz ht hne ho (h.sl i v hv)
  · rw [hlen] at hi ⊢
    by_cases e : m = i
    · subst e
      have e3 : atn Ob.gone (setn o' (mapn (Ob.frz o m) st.ob) m) m = o' := by rw [atn_setn, if_pos ⟨rfl, by rw [length_mapn]; exact hm⟩]
      rw [e3, hv]
      exact hro
    · have e' : i ≠ m := Ne.symm e
      have e3 : atn Ob.gone (setn o' (mapn (Ob.frz o m) st.ob) m) i = Ob.frz o m (atn Ob.gone st.ob i) := by rw [atn_setn, if_neg (fun hc => e hc.1), atn_mapn _ _ (ofrz_gone o m)]
      rw [e3, hne i e']
      exact RO.frz ht hne ho (hoth i hi e') (h.ob i hi)
  · rw [hlen] at hi hj
    by_cases e1 : i = m
    · subst e1
      rw [hv] at hbi
      rw [hne j (Ne.symm hij)] at hbj
      rcases hbl b hbi with h1 | h1
      · exact h.ne i j hi hj hij b h1 hbj
      · have := h.lt hj hbj; omega
    · rw [hne i e1] at hbi
      by_cases e2 : j = m
      · subst e2
        rw [hv] at hbj
        rcases hbl b hbj with h1 | h1
        · exact h.ne i j hi hj hij b hbi h1
        · have := h.lt hi hbi; omega
      · rw [hne j e2] at hbj
        exact h.ne i j hi hj hij b hbi hbj
  · by_cases e : i = m
    · subst e
      rw [hv, hown hi hf]
      exact h.keep i hi hf
    · rw [hne i e]
      exact h.keep i hi hf
  · by_cases e : i = m
    · subst e
      rw [hv] at hib
      rcases hbl b hib with h1 | h1
      · exact h.kp i hi b h1
      · exact .inr (Nat.le_trans h.ag.size h1)
    · rw [hne i e] at hib
      exact h.kp i hi b hib
  · refine ⟨hag.os.trans h.ag.os, hag.tape.trans h.ag.tape, hag.output.trans h.ag.output, Nat.le_trans h.ag.size hag.size, fun b hb hn => ?_⟩
    refine (hag.block b (Nat.lt_of_lt_of_le hb h.ag.size) (fun hbm => ?_)).trans (h.ag.block b hb hn)
    rcases Nat.lt_or_ge m own with h1 | h1
    · rcases h.kp m h1 b hbm with h2 | h2
      · exact hn (.inr ⟨m, h1, h2⟩)
      · omega
    · have := h.ge hm h1 hbm
      omega
  · rw [hlen]
    rw [atn_mapn _ _ (frz_un o m)] at hj
    exact h.wt i j (frz_refs hj).1
  · rw [hlen]
    rw [atn_setn] at hj
    split at hj
    · exact hor j hj
    · rw [atn_mapn _ _ (ofrz_gone o m)] at hj
      exact h.wo i j (ofrz_refs hj).1
end
end Go.Proofs.Ythbojpaghbbnnaa.Z
