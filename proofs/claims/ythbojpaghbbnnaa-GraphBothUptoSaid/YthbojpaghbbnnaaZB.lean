/- What the small machine's state says of memory, and what memory's changes leave of it. Plain lemmas; no condition. -/
import Derived.Test.YthbojpaghbbnnaaZA
import Derived.OrdersHeld
namespace Go.Proofs.Ythbojpaghbbnnaa.Z
open Go Go.RowKit
set_option linter.unusedVariables false
set_option linter.unusedSimpArgs false

/-- Nothing that was there has turned, but for the blocks of U. -/
structure Ag (U : Nat → Prop) (w w' : World) : Prop where
  os : w'.os = w.os
  tape : w'.tape = w.tape
  output : w'.output = w.output
  size : w.heap.size ≤ w'.heap.size
  block : ∀ b, b < w.heap.size → ¬ U b → w'.heap[b]? = w.heap[b]?
theorem Ag.refl (U : Nat → Prop) (w : World) : Ag U w w := ⟨rfl, rfl, rfl, Nat.le_refl _, fun _ _ _ => rfl⟩
theorem Ag.trans {U : Nat → Prop} {a b c : World} (h : Ag U a b) (k : Ag U b c) : Ag U a c :=
  ⟨k.os.trans h.os, k.tape.trans h.tape, k.output.trans h.output, Nat.le_trans h.size k.size, fun i hi hu => (k.block i (Nat.lt_of_lt_of_le hi h.size) hu).trans (h.block i hi hu)⟩
theorem Ag.mono {U V : Nat → Prop} {w w' : World} (h : Ag U w w') (hv : ∀ b, b < w.heap.size → U b → V b) : Ag V w w' := ⟨h.os, h.tape, h.output, h.size, fun b hb hn => h.block b hb (fun hu => hn (hv b hb hu))⟩
theorem Ag.of_below {w w' : World} (h : Below w.heap.size w w') (U : Nat → Prop) : Ag U w w' := ⟨h.os, h.tape, h.output, h.size, fun b hb _ => h.block b hb⟩
theorem Ag.below {U : Nat → Prop} {w w' : World} (h : Ag U w w') (hU : ∀ b, b < w.heap.size → ¬ U b) : Below w.heap.size w w' := ⟨h.os, h.tape, h.output, h.size, fun b hb => h.block b hb (hU b hb)⟩
theorem Ag.of_grown {w w' : World} {row : Option Nat} (h : w.grownBy w' row) {U : Nat → Prop} (hU : ∀ b, row = some b → U b) : Ag U w w' := ⟨h.os, h.tape, h.output, h.size, fun b hb hn => h.block b hb (fun e => hn (hU b e.symm))⟩
theorem Ag.drew (U : Nat → Prop) (w : World) : Ag U w w.drew := ⟨rfl, rfl, rfl, Nat.le_refl _, fun _ _ _ => rfl⟩
/-- What holds whenever memory stays as w has it, but for U, holds whenever it stays as w' has it, but for U'. -/
def Tr (U : Nat → Prop) (w : World) (U' : Nat → Prop) (w' : World) : Prop := ∀ w'', Ag U' w' w'' → Ag U w w''
theorem Tr.refl (U : Nat → Prop) (w : World) : Tr U w U w := fun _ h => h
theorem Tr.of {U V U' : Nat → Prop} {w w' : World} (h : Ag V w w') (hV : ∀ b, b < w.heap.size → V b → U b) (hU : ∀ b, b < w.heap.size → U' b → U b) : Tr U w U' w' := fun w'' k =>
  ⟨k.os.trans h.os, k.tape.trans h.tape, k.output.trans h.output, Nat.le_trans h.size k.size, fun b hb hn => (k.block b (Nat.lt_of_lt_of_le hb h.size) (fun hu => hn (hU b hb hu))).trans (h.block b hb (fun hv => hn (hV b hb hv)))⟩
theorem Tr.trans {U U' U'' : Nat → Prop} {a b c : World} (h : Tr U a U' b) (k : Tr U' b U'' c) : Tr U a U'' c := fun w hw => h w (k w hw)

def Els {α : Type} (Q : List Value → α → Prop) : List Value → List α → Prop
  | cs, [] => cs = []
  | cs, x :: xs => ∃ c r, cs = c ++ r ∧ Q c x ∧ Els Q r xs
theorem Els.mono {α : Type} {Q Q' : List Value → α → Prop} (h : ∀ c x, Q c x → Q' c x) : ∀ {cs : List Value} {xs : List α}, Els Q cs xs → Els Q' cs xs
  | _, [], e => e
  | _, _ :: _, ⟨c, r, e, hq, hr⟩ => ⟨c, r, e, h _ _ hq, Els.mono h hr⟩
theorem Els.length {α : Type} {Q : List Value → α → Prop} {sz : Nat} (hz : ∀ c x, Q c x → c.length = sz) : ∀ {cs : List Value} {xs : List α}, Els Q cs xs → cs.length = xs.length * sz
  | _, [], e => by cases e; simp
  | _, x :: xs, ⟨c, r, e, hq, hr⟩ => by rw [e, List.length_append, hz _ _ hq, Els.length hz hr, List.length_cons, Nat.succ_mul]; omega
theorem Els.append {α : Type} {Q : List Value → α → Prop} : ∀ {cs ds : List Value} {xs ys : List α}, Els Q cs xs → Els Q ds ys → Els Q (cs ++ ds) (xs ++ ys)
  | _, _, [], _, e, k => by cases e; simpa using k
  | _, _, _ :: _, _, ⟨c, r, e, hq, hr⟩, k => ⟨c, _, by rw [e, List.append_assoc], hq, hr.append k⟩
theorem Els.get {α : Type} {Q : List Value → α → Prop} {sz : Nat} (hz : ∀ c x, Q c x → c.length = sz) : ∀ {cs : List Value} {xs : List α}, Els Q cs xs → ∀ i (hi : i < xs.length),
    Q ((cs.drop (i * sz)).take sz) xs[i]
  | _, [], _, i, hi => absurd hi (by simp)
  | _, x :: xs, ⟨c, r, e, hq, hr⟩, 0, _ => by
    have := hz _ _ hq
    rw [e, Nat.zero_mul, List.drop_zero, ← this, List.take_left']
    · exact hq
    · rfl
  | _, x :: xs, ⟨c, r, e, hq, hr⟩, i + 1, hi => by
    have h1 := hz _ _ hq
    rw [e, Nat.succ_mul, Nat.add_comm, ← List.drop_drop, show sz = c.length from h1.symm, List.drop_left', ← h1.symm]
    · exact Els.get hz hr i (by simpa using hi)
    · rfl
theorem Els.take {α : Type} {Q : List Value → α → Prop} {sz : Nat} (hz : ∀ c x, Q c x → c.length = sz) : ∀ {cs : List Value} {xs : List α}, Els Q cs xs → ∀ n, Els Q (cs.take (n * sz)) (xs.take n)
  | _, [], e, n => by cases e; simp [Els]
  | _, x :: xs, _, 0 => by simp [Els]
  | _, x :: xs, ⟨c, r, e, hq, hr⟩, n + 1 => by
    have h1 := hz _ _ hq
    refine ⟨c, r.take (n * sz), ?_, hq, Els.take hz hr n⟩
    rw [e, List.take_append, List.take_of_length_le (by rw [h1, Nat.succ_mul]; omega), h1, Nat.succ_mul, Nat.add_sub_cancel]
theorem Els.drop {α : Type} {Q : List Value → α → Prop} {sz : Nat} (hz : ∀ c x, Q c x → c.length = sz) : ∀ {cs : List Value} {xs : List α}, Els Q cs xs → ∀ n, Els Q (cs.drop (n * sz)) (xs.drop n)
  | _, [], e, n => by cases e; simp [Els]
  | cs, x :: xs, h, 0 => by simpa using h
  | _, x :: xs, ⟨c, r, e, hq, hr⟩, n + 1 => by
    have h1 := hz _ _ hq
    rw [e, Nat.succ_mul, Nat.add_comm, ← List.drop_drop, show sz = c.length from h1.symm, List.drop_left' rfl, ← h1.symm]
    exact Els.drop hz hr n
theorem Els.set {α : Type} {Q : List Value → α → Prop} {sz : Nat} (hz : ∀ c x, Q c x → c.length = sz) {d : List Value} {y : α} (hd : Q d y) : ∀ {cs : List Value} {xs : List α}, Els Q cs xs → ∀ i, i < xs.length →
    Els Q (cs.take (i * sz) ++ d ++ cs.drop (i * sz + sz)) (xs.set i y)
  | _, [], _, i, hi => absurd hi (by simp)
  | _, x :: xs, ⟨c, r, e, hq, hr⟩, 0, _ => by
    have h1 := hz _ _ hq
    refine ⟨d, r, ?_, hd, hr⟩
    rw [e, Nat.zero_mul, List.take_zero, List.nil_append, Nat.zero_add, ← h1, List.drop_left' rfl]
  | _, x :: xs, ⟨c, r, e, hq, hr⟩, i + 1, hi => by
    have h1 := hz _ _ hq
    refine ⟨c, _, ?_, hq, Els.set hz hd hr i (by simpa using hi)⟩
    rw [e, List.take_append, List.take_of_length_le (by rw [h1, Nat.succ_mul]; omega), h1, Nat.succ_mul, Nat.add_sub_cancel, show i * sz + sz + sz = c.length + (i * sz + sz) by omega, ← List.drop_drop, List.drop_left' rfl]
    simp only [List.append_assoc]
theorem Els.replicate {α : Type} {Q : List Value → α → Prop} {c : List Value} {x : α} (h : Q c x) : ∀ n, Els Q (List.replicate n c).flatten (List.replicate n x)
  | 0 => rfl
  | n + 1 => ⟨c, _, by rw [List.replicate_succ, List.flatten_cons], h, Els.replicate h n⟩

section
/-- What the pointers that stand for objects say of memory. -/
abbrev Obs := (n : Nat) → World → Value → OT n → Prop
variable (ρ : Obs)
/-- The cells of a value, which stay so as long as memory stays, but for U. -/
def ICs (U : Nat → Prop) (w : World) : (t : T) → List Value → t.den → Prop
  | .int k, cs, x => cs = [.int k x]
  | .bool, cs, x => cs = [.bool x]
  | .flt, cs, x => cs = [.float .f64 x]
  | .list t, cs, xs => ∃ A c ds, cs = [.slice A (List.length xs) c] ∧ List.length xs ≤ maxLen ∧ List.length xs ≤ c ∧ Els (ICs U w t) ds xs ∧
      (0 < List.length xs → ∃ b off, A = some ⟨b, off, none⟩ ∧ ∀ w', Ag U w w' → ∀ j, j < ds.length → w'.cell? ⟨b, off + j, none⟩ = ds[j]?)
  | .pair a b, cs, x => ∃ c d, cs = c ++ d ∧ ICs U w a c x.1 ∧ ICs U w b d x.2
  | .obj n, cs, x => ∃ v, cs = [v] ∧ match x with
    | none => v = .pointer none
    | some y => (∃ a, v = .pointer (some a)) ∧ ∀ w', Ag U w w' → ρ n w' v y
variable {ρ}
theorem ICs.length {U : Nat → Prop} {w : World} : ∀ {t : T} {cs : List Value} {x : t.den}, ICs ρ U w t cs x → cs.length = t.size
  | .int _, _, _, h => by cases h; rfl
  | .bool, _, _, h => by cases h; rfl
  | .flt, _, _, h => by cases h; rfl
  | .list _, _, _, ⟨_, _, _, h, _⟩ => by cases h; rfl
  | .pair a b, _, _, ⟨c, d, h, h1, h2⟩ => by rw [h, List.length_append, ICs.length h1, ICs.length h2]; rfl
  | .obj _, _, _, ⟨_, h, _⟩ => by cases h; rfl
theorem ICs.tr {U U' : Nat → Prop} {w w' : World} (k : Tr U w U' w') : ∀ {t : T} {cs : List Value} {x : t.den}, ICs ρ U w t cs x → ICs ρ U' w' t cs x
  | .int _, _, _, h => h
  | .bool, _, _, h => h
  | .flt, _, _, h => h
  | .list _, _, _, ⟨A, c, ds, h, h1, hc, h2, h3⟩ => ⟨A, c, ds, h, h1, hc, h2.mono (fun _ _ q => ICs.tr k q), fun hp => by
    obtain ⟨b, off, e, h4⟩ := h3 hp
    exact ⟨b, off, e, fun w'' hw => h4 w'' (k w'' hw)⟩⟩
  | .pair a b, _, _, ⟨c, d, h, h1, h2⟩ => ⟨c, d, h, ICs.tr k h1, ICs.tr k h2⟩
  | .obj _, _, none, ⟨v, h, h1⟩ => ⟨v, h, h1⟩
  | .obj _, _, some y, ⟨v, h, h1, h2⟩ => ⟨v, h, h1, fun w'' hw => h2 w'' (k w'' hw)⟩
/-- A value of these cells. -/
def pack (t : T) (cs : List Value) : Value :=
  match t with
  | .pair _ _ => .agg cs.toArray
  | _ => cs.headD undef
theorem pack_cells {t : T} {cs : List Value} (h : cs.length = t.size) (h1 : ∀ a b, t ≠ .pair a b → ∀ v ∈ cs, v.cells = #[v]) : (pack t cs).cells = cs.toArray := by
  cases t with
  | pair a b => rfl
  | _ =>
    obtain ⟨v, rfl⟩ : ∃ v, cs = [v] := List.length_eq_one_iff.1 h
    exact h1 (.bool) (.bool) (by simp) v (by simp)
def IRd (ρ : Obs) (U : Nat → Prop) (w : World) (t : T) (v : Value) (x : t.den) : Prop := ∃ cs, v = pack t cs ∧ ICs ρ U w t cs x
theorem IRd.tr {U U' : Nat → Prop} {w w' : World} {t : T} {v : Value} {x : t.den} (h : IRd ρ U w t v x) (k : Tr U w U' w') : IRd ρ U' w' t v x := by
  obtain ⟨cs, e, h⟩ := h
  exact ⟨cs, e, ICs.tr k h⟩
end
end Go.Proofs.Ythbojpaghbbnnaa.Z
