/- Words for what slices hold: a slice that is read, wherever it lies between two block numbers. Plain lemmas; no condition. -/
import Derived.Test.YthbojpaghbbnnaaProg
import Derived.WalkKit
import Derived.Lib.Hide
import Derived.Maps.AppendAt
import Derived.Deep.AppendLies
import Derived.Deep.Draws
import Derived.Deep.QuietTactic
import Derived.BigQuiet
import Derived.Deep.RegionHeld3
import Derived.Deep.CutBlock
import Derived.Deep.DeepCutAuto
import Derived.Deep.LoopGhost
import Derived.Deep.OwnRows
import Derived.WideLaws
namespace Go.Proofs.Ythbojpaghbbnnaa
open Go.RowKit

/-- Between the blocks lo and hi nothing has turned; no block is gone. -/
def Same (lo hi : Nat) (w w' : World) : Prop := w.heap.size ≤ w'.heap.size ∧ ∀ b, lo ≤ b → b < hi → w'.heap[b]? = w.heap[b]?

theorem Same.refl (lo hi : Nat) (w : World) : Same lo hi w w := ⟨Nat.le_refl _, fun _ _ _ => rfl⟩
theorem Same.trans {lo hi : Nat} {a b c : World} (h : Same lo hi a b) (k : Same lo hi b c) : Same lo hi a c := ⟨Nat.le_trans h.1 k.1, fun x h1 h2 => (k.2 x h1 h2).trans (h.2 x h1 h2)⟩
theorem Same.mono {lo hi lo' hi' : Nat} {w w' : World} (h : Same lo hi w w') (h1 : lo ≤ lo') (h2 : hi' ≤ hi) : Same lo' hi' w w' := ⟨h.1, fun b a c => h.2 b (by omega) (by omega)⟩
theorem same_below {B lo hi : Nat} {w w' : World} (h : Below B w w') (hb : hi ≤ B) : Same lo hi w w' := ⟨h.size, fun b _ h2 => h.block b (by omega)⟩
theorem same_grown {lo hi : Nat} {w w' : World} {row : Option Nat} (h : w.grownBy w' row) (hb : hi ≤ w.heap.size) (hr : ∀ k, row = some k → k < lo ∨ hi ≤ k) : Same lo hi w w' := ⟨h.size, fun b h1 h2 => h.block b (by omega) (fun e => by have := hr b e.symm; omega)⟩
theorem size_setCell (w : World) (a : Addr) (u : Value) : (w.setCell a u).heap.size = w.heap.size := by simp [World.setCell]
theorem same_set {lo hi : Nat} (w : World) (a : Addr) (u : Value) (h : a.block < lo ∨ hi ≤ a.block) : Same lo hi w (w.setCell a u) := ⟨by rw [size_setCell]; exact Nat.le_refl _, fun b h1 h2 => Below.heap_setCell w a u b (by omega)⟩
theorem same_alloc {lo hi : Nat} (w : World) (o : Obj) (h : hi ≤ w.heap.size) : Same lo hi w (w.alloc o) := ⟨by simp, fun b _ h2 => Below.heap_alloc w o b (by omega)⟩
theorem same_drewN {lo hi : Nat} (w : World) (n : Nat) : Same lo hi w (w.drewN n) := ⟨Nat.le_refl _, fun _ _ _ => rfl⟩
theorem below_drewN {B : Nat} {a w : World} (h : Below B a w) (n : Nat) : Below B a (w.drewN n) := ⟨h.os, h.tape, h.output, h.size, h.block⟩
/-- What a callee leaves, seen from the caller's begin. -/
theorem below_then {B : Nat} {w w1 w2 : World} (h : Below B w w1) (hB : B ≤ w1.heap.size) (k : Below w1.heap.size w1 w2) : Below B w w2 := h.trans (k.mono hB)
theorem below_then' {w w1 w2 : World} (h : Below w.heap.size w w1) (k : Below w1.heap.size w1 w2) : Below w.heap.size w w2 := h.trans (k.mono h.size)

/-- A slice of n elements of sz cells each reads as xs; its block lies from lo on and below hi. -/
def Sl (w : World) (lo hi sz : Nat) (v : Value) (n : Nat) (xs : List Value) : Prop :=
  hi ≤ w.heap.size ∧ xs.length = n * sz ∧ n ≤ maxLen ∧ ∃ A c, v = .slice A n c ∧ (0 < n → ∃ b off, A = some ⟨b, off, none⟩ ∧ lo ≤ b ∧ b < hi ∧ ∀ j, j < n * sz → w.cell? ⟨b, off + j, none⟩ = xs[j]?)

theorem Sl.frame {w w' : World} {lo hi sz n : Nat} {v : Value} {xs : List Value} (h : Sl w lo hi sz v n xs) (s : Same lo hi w w') : Sl w' lo hi sz v n xs := by
  obtain ⟨h0, h1, h2, A, c, h3, h4⟩ := h
  refine ⟨Nat.le_trans h0 s.1, h1, h2, A, c, h3, fun hn => ?_⟩
  obtain ⟨b, off, e, a1, a2, a3⟩ := h4 hn
  exact ⟨b, off, e, a1, a2, fun j hj => (World.cell?_of_block (s.2 b a1 a2)).trans (a3 j hj)⟩
theorem Sl.below {w w' : World} {lo hi sz n B : Nat} {v : Value} {xs : List Value} (h : Sl w lo hi sz v n xs) (b : Below B w w') (hB : hi ≤ B) : Sl w' lo hi sz v n xs := h.frame (same_below b hB)
theorem Sl.mono {w : World} {lo hi lo' hi' sz n : Nat} {v : Value} {xs : List Value} (h : Sl w lo hi sz v n xs) (h1 : lo' ≤ lo) (h2 : hi ≤ hi') (h3 : hi' ≤ w.heap.size) : Sl w lo' hi' sz v n xs := by
  obtain ⟨g0, g1, g2, A, c, g3, g4⟩ := h
  refine ⟨h3, g1, g2, A, c, g3, fun hn => ?_⟩
  obtain ⟨b, off, e, a1, a2, a3⟩ := g4 hn
  exact ⟨b, off, e, by omega, by omega, a3⟩
theorem Sl.empty (w : World) (lo hi sz : Nat) (A : Option Addr) (c : Nat) (h : hi ≤ w.heap.size) : Sl w lo hi sz (.slice A 0 c) 0 [] := ⟨h, by simp, by simp [maxLen], A, c, rfl, fun h => absurd h (by omega)⟩
theorem Sl.le {w : World} {lo hi sz n : Nat} {v : Value} {xs : List Value} (h : Sl w lo hi sz v n xs) : hi ≤ w.heap.size := h.1
theorem sl_own {w : World} {base sz n : Nat} {e : TypeId} {v : Value} {xs : List Value} (h : w.ownsRow base e sz v n xs) : Sl w base w.heap.size sz v n xs := by
  refine ⟨Nat.le_refl _, h.1, ?_, ?_⟩
  · rcases h.2 with ⟨_, rfl⟩ | ⟨g, cap, cur, rfl, _, _, h1, h2, _⟩
    · simp [maxLen]
    · omega
  · rcases h.2 with ⟨rfl, rfl⟩ | ⟨g, cap, cur, rfl, hb, hh, h1, h2, _⟩
    · exact ⟨none, 0, rfl, fun h => absurd h (by omega)⟩
    · refine ⟨_, _, rfl, fun hn => ⟨g, 0, rfl, hb, (Array.getElem?_eq_some_iff.1 hh).1, fun j hj => ?_⟩⟩
      rw [Nat.zero_add]
      exact h.cellAt j hj

/-! What a walk wants of a slice of one-cell elements: the shape, and each cell. -/
section
variable {α : Type} {w : World} {lo hi : Nat} {v : Value} {xs : List α} {f : α → Value}
/-- One-cell elements. -/
def Sl1 (w : World) (lo hi : Nat) (f : α → Value) (v : Value) (xs : List α) : Prop := Sl w lo hi 1 v xs.length (xs.map f)
theorem Sl1.frame {w' : World} (h : Sl1 w lo hi f v xs) (s : Same lo hi w w') : Sl1 w' lo hi f v xs := Sl.frame h s
theorem Sl1.below {w' : World} {B : Nat} (h : Sl1 w lo hi f v xs) (b : Below B w w') (hB : hi ≤ B) : Sl1 w' lo hi f v xs := Sl.below h b hB
theorem Sl1.at_ {w' : World} (h : Sl1 w lo hi f v xs) (b : Below w.heap.size w w') : Sl1 w' lo hi f v xs := Sl.below h b h.1
theorem Sl1.mono {lo' hi' : Nat} (h : Sl1 w lo hi f v xs) (h1 : lo' ≤ lo) (h2 : hi ≤ hi') (h3 : hi' ≤ w.heap.size) : Sl1 w lo' hi' f v xs := Sl.mono h h1 h2 h3
theorem Sl1.form (h : Sl1 w lo hi f v xs) : xs.length ≤ 9223372036854775807 ∧ ∃ A c, v = .slice A xs.length c := by
  obtain ⟨_, h1, h2, A, c, h3, _⟩ := h
  exact ⟨by simpa [maxLen] using h2, A, c, h3⟩
theorem Sl1.get {A : Option Addr} {n c : Nat} (h : Sl1 w lo hi f (.slice A n c) xs) (k : Nat) (hk : k < xs.length) :
    ∃ b off x, A = some ⟨b, off, none⟩ ∧ lo ≤ b ∧ b < hi ∧ w.cell? ⟨b, off + k, none⟩ = some (f x) ∧ Hid (xs[k]? = some x) := by
  obtain ⟨_, _, _, A', c', e, h4⟩ := h
  injection e with e1 e2 e3
  subst e1
  obtain ⟨b, off, rfl, h3, h4, h5⟩ := h4 (by omega)
  refine ⟨b, off, xs[k], rfl, h3, h4, ?_, List.getElem?_eq_getElem hk⟩
  rw [h5 k (by omega), List.getElem?_map, List.getElem?_eq_getElem hk]
  rfl
theorem Sl1.all {A : Option Addr} {n c : Nat} (h : Sl1 w lo hi f (.slice A n c) xs) (h0 : 0 < xs.length) :
    ∃ b off, A = some ⟨b, off, none⟩ ∧ lo ≤ b ∧ b < hi ∧ ∀ k, ∀ hk : k < xs.length, w.cell? ⟨b, off + k, none⟩ = some (f xs[k]) := by
  obtain ⟨_, _, _, A', c', e, h4⟩ := h
  injection e with e1 e2 e3
  subst e1
  obtain ⟨b, off, rfl, h3, h4, h5⟩ := h4 (by omega)
  refine ⟨b, off, rfl, h3, h4, fun k hk => ?_⟩
  rw [h5 k (by omega), List.getElem?_map, List.getElem?_eq_getElem hk]
  rfl
theorem Sl1.own {base : Nat} {e : TypeId} {n : Nat} (h : w.ownsRow base e 1 v n (xs.map f)) : Sl1 w base w.heap.size f v xs := by
  have hn : n = xs.length := by have := h.1; simp at this; exact this.symm
  subst hn
  exact sl_own h
theorem Sl1.nil (w : World) (lo hi : Nat) (f : α → Value) (h : hi ≤ w.heap.size) : Sl1 w lo hi f (.slice none 0 0) [] := Sl.empty w lo hi 1 none 0 h
end
abbrev vi (n : Int) : Value := .int .i64 n
abbrev Ints (w : World) (lo hi : Nat) (v : Value) (xs : List Int) : Prop := Sl1 w lo hi (Value.int .i64) v xs
abbrev Bools (w : World) (lo hi : Nat) (v : Value) (xs : List Bool) : Prop := Sl1 w lo hi Value.bool v xs

/-! Elements of several cells. -/
theorem flat_get {α : Type} (enc : α → List Value) (sz : Nat) (hz : ∀ x, (enc x).length = sz) : ∀ (xs : List α) (k : Nat) (x : α), xs[k]? = some x → ∀ j, j < sz → (xs.flatMap enc)[k * sz + j]? = (enc x)[j]?
  | [], k, x, h, j, hj => by simp at h
  | y :: xs, 0, x, h, j, hj => by
    obtain rfl : y = x := by simpa using h
    rw [List.flatMap_cons, Nat.zero_mul, Nat.zero_add, List.getElem?_append_left (by rw [hz]; exact hj)]
  | y :: xs, k + 1, x, h, j, hj => by
    have h' : xs[k]? = some x := by simpa using h
    rw [List.flatMap_cons, List.getElem?_append_right (by rw [hz, Nat.succ_mul]; omega), hz, ← flat_get enc sz hz xs k x h' j hj, Nat.succ_mul, show k * sz + sz + j - sz = k * sz + j from by omega]
theorem flat_length {α : Type} (enc : α → List Value) (sz : Nat) (hz : ∀ x, (enc x).length = sz) (xs : List α) : (xs.flatMap enc).length = xs.length * sz := by
  induction xs with
  | nil => simp
  | cons x xs ih => rw [List.flatMap_cons, List.length_append, hz, ih, List.length_cons, Nat.succ_mul]; omega
section
variable {α : Type} {w : World} {lo hi sz : Nat} {v : Value} {xs : List α} {enc : α → List Value}
def SlS (w : World) (lo hi : Nat) (enc : α → List Value) (sz : Nat) (v : Value) (xs : List α) : Prop := Sl w lo hi sz v xs.length (xs.flatMap enc)
theorem SlS.frame {w' : World} (h : SlS w lo hi enc sz v xs) (s : Same lo hi w w') : SlS w' lo hi enc sz v xs := Sl.frame h s
theorem SlS.below {w' : World} {B : Nat} (h : SlS w lo hi enc sz v xs) (b : Below B w w') (hB : hi ≤ B) : SlS w' lo hi enc sz v xs := Sl.below h b hB
theorem SlS.at_ {w' : World} (h : SlS w lo hi enc sz v xs) (b : Below w.heap.size w w') : SlS w' lo hi enc sz v xs := Sl.below h b h.1
theorem SlS.mono {lo' hi' : Nat} (h : SlS w lo hi enc sz v xs) (h1 : lo' ≤ lo) (h2 : hi ≤ hi') (h3 : hi' ≤ w.heap.size) : SlS w lo' hi' enc sz v xs := Sl.mono h h1 h2 h3
theorem SlS.form (h : SlS w lo hi enc sz v xs) : xs.length ≤ 9223372036854775807 ∧ ∃ A c, v = .slice A xs.length c := by
  obtain ⟨_, h1, h2, A, c, h3, _⟩ := h
  exact ⟨by simpa [maxLen] using h2, A, c, h3⟩
theorem SlS.get {A : Option Addr} {n c : Nat} (h : SlS w lo hi enc sz (.slice A n c) xs) (hz : ∀ x, (enc x).length = sz) (k : Nat) (hk : k < xs.length) :
    ∃ b off x, A = some ⟨b, off, none⟩ ∧ lo ≤ b ∧ b < hi ∧ (∀ j, j < sz → w.cell? ⟨b, off + k * sz + j, none⟩ = (enc x)[j]?) ∧ Hid (xs[k]? = some x) := by
  obtain ⟨_, _, _, A', c', e, h4⟩ := h
  injection e with e1 e2 e3
  subst e1
  obtain ⟨b, off, rfl, h3, h4, h5⟩ := h4 (by omega)
  refine ⟨b, off, xs[k], rfl, h3, h4, fun j hj => ?_, List.getElem?_eq_getElem hk⟩
  have : k * sz + j < xs.length * sz := Nat.lt_of_lt_of_le (show k * sz + j < (k + 1) * sz by rw [Nat.succ_mul]; omega) (Nat.mul_le_mul_right _ hk)
  rw [Nat.add_assoc, h5 _ this, flat_get enc sz hz xs k xs[k] (List.getElem?_eq_getElem hk) j hj]
theorem SlS.own {base : Nat} {e : TypeId} {n : Nat} (hz : ∀ x, (enc x).length = sz) (hsz : 0 < sz) (h : w.ownsRow base e sz v n (xs.flatMap enc)) : SlS w base w.heap.size enc sz v xs := by
  have hn : n = xs.length := by
    have := h.1
    rw [flat_length enc sz hz] at this
    exact (Nat.eq_of_mul_eq_mul_right hsz this).symm
  subst hn
  exact sl_own h
theorem SlS.nil (w : World) (lo hi : Nat) (enc : α → List Value) (sz : Nat) (h : hi ≤ w.heap.size) : SlS w lo hi enc sz (.slice none 0 0) ([] : List α) := Sl.empty w lo hi sz none 0 h
end
def encP (p : Int × Int) : List Value := [.int .i64 p.1, .int .i64 p.2]
theorem encP_len (p : Int × Int) : (encP p).length = 2 := rfl
/-- A slice of pairs. -/
abbrev Prs (w : World) (lo hi : Nat) (v : Value) (ps : List (Int × Int)) : Prop := SlS w lo hi encP 2 v ps
def encC (c : (Int × Int) × Bool) : List Value := [.int .i64 c.1.1, .int .i64 c.1.2, .bool c.2]
theorem encC_len (c : (Int × Int) × Bool) : (encC c).length = 3 := rfl
/-- A slice of changes. -/
abbrev Chs (w : World) (lo hi : Nat) (v : Value) (cs : List ((Int × Int) × Bool)) : Prop := SlS w lo hi encC 3 v cs

/-! append(v, y), y an element of sz cells; behind 'at_builtin'; the goal's world is 'W.alloc' of the variadic's box. -/
theorem app_one {P : Program} {ops : Array Oper} {rest : List Oper} {o : Oper} {a : Act} {Q : Exit → Act → World → Prop} {W : World} (base : Nat) (hgd : o.guard = none) (s x : Operand) (t e : TypeId) (z : Value) (sz bytes : Nat)
    (ho : o.op = .call { callee := .builtin .append, args := #[s, x], argTypes := #[t, t] })
    (ht : P.underlying t = some (.slice e)) (hinfo : (P.info? e).map (fun i => (i.zero, i.size, i.bytes)) = some (some z, sz, bytes)) (hz : z.cells.size = sz) (hsz : 0 < sz) (hb0 : 0 < bytes)
    (v : Value) (n : Nat) (xs : List Value) (ys : Array Value) (hs : a.eval s = v) (hx : a.eval x = .slice (some ⟨W.heap.size, 0, none⟩) 1 1) (hy : ys.size = sz) (h1 : ∀ u ∈ ys.toList, u.oneCell' = true)
    (HO : W.ownsRow base e sz v n xs) (hbase : base ≤ W.heap.size) (hl : (n + 1) * bytes ≤ 140737488355328)
    (h : ∀ v1 w1, w1.ownsRow base e sz v1 (n + 1) (xs ++ ys.toList) → W.grownBy w1 v.ownBlock → (v1.ownBlock = v.ownBlock ∨ ∃ b, v1.ownBlock = some b ∧ W.heap.size ≤ b) → wpList P ops Q rest (a.put o.dst v1) w1) :
    wpList P ops Q (o :: rest) a (W.alloc (.cells ys e)) := by
  obtain ⟨i0, hi, hzz⟩ := Option.map_eq_some_iff.1 hinfo
  simp only [Prod.mk.injEq] at hzz
  obtain ⟨hz0, hz1, hz2⟩ := hzz
  have hlen : n + 1 ≤ 140737488355328 := Nat.le_trans (Nat.le_mul_of_pos_right _ hb0) hl
  refine wpList_append_own_at (W.alloc (.cells ys e)) hgd s x t ho base e i0 z sz bytes ht hi hz0 hz1 hz2 hz hsz v n xs hs (HO.alloc _) ⟨W.heap.size, 0, none⟩ 1 1 ys.toList hx (by simp [hy])
    (World.news_of_block (cs := ys) (t := e) (fr := (0, 0)) (heap_alloc_new W _)) h1 (by simp only [maxLen]; omega) hl (by simp; omega) ?_
  intro v1 w1 hown hg _ hat
  refine h v1 w1 hown (World.grownBy.trans (World.grownBy_alloc W _ _) hg) ?_
  rcases hat with hat | hat
  · exact .inl hat
  · exact .inr ⟨_, hat, by simp⟩
/-! make([]T, 0, n) and make([]T, n); behind 'at_make'. -/
theorem mk_cap {P : Program} {W : World} {ops : Array Oper} {rest : List Oper} {o : Oper} {a : Act} {Q : Exit → Act → World → Prop} (base : Nat)
    (hg : o.guard = none) (l c : Operand) (t e : TypeId) (z : Value) (sz bytes : Nat) (hop : o.op = Op.makeSlice t l c)
    (ht : P.underlying t = some (.slice e)) (hinfo : (P.info? e).map (fun i => (i.zero, i.size, i.bytes)) = some (some z, sz, bytes)) (hb0 : 0 < bytes)
    (C : Int) (n : Nat) (hl : a.eval l = .int .i64 0) (hc : a.eval c = .int .i64 C) (hC : C = (n : Int)) (hn : n * bytes ≤ 140737488355328) (hB : base ≤ W.heap.size)
    (hK : ∀ w', w'.ownsRow base e sz (.slice (some ⟨W.heap.size, 0, none⟩) 0 n) 0 [] → W.grownBy w' none → wpList P ops Q rest (a.put o.dst (.slice (some ⟨W.heap.size, 0, none⟩) 0 n)) w') :
    wpList P ops Q (o :: rest) a W := by
  obtain ⟨i0, hi, hzz⟩ := Option.map_eq_some_iff.1 hinfo
  simp only [Prod.mk.injEq] at hzz
  obtain ⟨hz0, hz1, hz2⟩ := hzz
  have hm : n ≤ 140737488355328 := Nat.le_trans (Nat.le_mul_of_pos_right _ hb0) hn
  exact wpList_make_own W hg l c t hop base e i0 z sz ht hi hz0 hz1 .i64 .i64 C n hl hc hC (by rw [hz2, Nat.mul_comm]; omega) (by unfold maxLen; omega) hB hK
theorem madeCells_one (z : Value) (n : Nat) : (madeCells #[z] (n * 1)).toList = List.replicate n z := by rw [Nat.mul_one]; exact toList_madeCells_one z n
theorem mk_full {P : Program} {W : World} {ops : Array Oper} {rest : List Oper} {o : Oper} {a : Act} {Q : Exit → Act → World → Prop} (base : Nat)
    (hg : o.guard = none) (l c : Operand) (t e : TypeId) (z : Value) (bytes : Nat) (hop : o.op = Op.makeSlice t l c)
    (ht : P.underlying t = some (.slice e)) (hinfo : (P.info? e).map (fun i => (i.zero, i.size, i.bytes)) = some (some z, 1, bytes)) (hz : z.cells = #[z]) (hb0 : 0 < bytes)
    (L C : Int) (n : Nat) (hl : a.eval l = .int .i64 L) (hc : a.eval c = .int .i64 C) (hL : L = (n : Int)) (hC : C = (n : Int)) (hn : n * bytes ≤ 140737488355328) (hB : base ≤ W.heap.size)
    (hK : ∀ w', w'.ownsRow base e 1 (.slice (some ⟨W.heap.size, 0, none⟩) n n) n (List.replicate n z) → W.grownBy w' none → wpList P ops Q rest (a.put o.dst (.slice (some ⟨W.heap.size, 0, none⟩) n n)) w') :
    wpList P ops Q (o :: rest) a W := by
  obtain ⟨i0, hi, hzz⟩ := Option.map_eq_some_iff.1 hinfo
  simp only [Prod.mk.injEq] at hzz
  obtain ⟨hz0, hz1, hz2⟩ := hzz
  have hm : n ≤ 140737488355328 := Nat.le_trans (Nat.le_mul_of_pos_right _ hb0) hn
  refine wpList_make_full W hg l c t hop base e i0 z 1 ht hi hz0 hz1 .i64 .i64 L C n hl hc hL hC (by rw [hz2, Nat.mul_comm]; omega) (by unfold maxLen; omega) hB (fun w' h k => hK w' ?_ k)
  rw [hz, madeCells_one] at h
  exact h
theorem own_ge {w : World} {base sz n : Nat} {e : TypeId} {v : Value} {xs : List Value} (h : w.ownsRow base e sz v n xs) (k : Nat) (hk : v.ownBlock = some k) : base ≤ k := (h.lt k hk).1
theorem grown_of_below {w w1 : World} (h : Below w.heap.size w w1) (row : Option Nat) : w.grownBy w1 row := ⟨h.os, h.tape, h.output, h.size, fun i hi _ => h.block i hi⟩
theorem ownsRow_mono {w : World} {b b' s n : Nat} {e : TypeId} {v : Value} {xs : List Value} (h : w.ownsRow b e s v n xs) (hb : b' ≤ b) : w.ownsRow b' e s v n xs := by
  obtain ⟨h1, h2⟩ := h
  refine ⟨h1, h2.imp id ?_⟩
  rintro ⟨g, cap, cur, e1, e2, e3⟩
  exact ⟨g, cap, cur, e1, Nat.le_trans hb e2, e3⟩
theorem own_ne_type {w : World} {b b' s s' n n' : Nat} {e e' : TypeId} {v v' : Value} {xs xs' : List Value} (h : w.ownsRow b e s v n xs) (h' : w.ownsRow b' e' s' v' n' xs') (hne : e ≠ e') : v.ownBlock = none ∨ v.ownBlock ≠ v'.ownBlock := by
  rcases h.2 with ⟨rfl, _⟩ | ⟨g, cap, cur, rfl, _, hh, _⟩
  · exact .inl rfl
  · refine .inr fun hk => ?_
    rcases h'.2 with ⟨rfl, _⟩ | ⟨g', cap', cur', rfl, _, hh', _⟩
    · simp [Value.ownBlock] at hk
    · have : g = g' := by simpa [Value.ownBlock] using hk
      subst this
      rw [hh] at hh'
      injection hh' with hh'
      injection hh' with _ ht
      exact hne ht
/-- The world behind an append, seen from the call's begin. -/
theorem below_app {w W w1 : World} {base sz n : Nat} {e : TypeId} {v : Value} {xs : List Value} (hb : Below w.heap.size w W) (HO : W.ownsRow base e sz v n xs) (hg : W.grownBy w1 v.ownBlock) (h : w.heap.size ≤ base) : Below w.heap.size w w1 :=
  hb.grown hg hb.size (fun k hk => Nat.le_trans h (own_ge HO k hk))
theorem same_app {lo hi : Nat} {W w1 : World} {base sz n : Nat} {e : TypeId} {v : Value} {xs : List Value} (HO : W.ownsRow base e sz v n xs) (hg : W.grownBy w1 v.ownBlock) (h : hi ≤ base) (hs : hi ≤ W.heap.size) : Same lo hi W w1 :=
  same_grown hg hs (fun k hk => .inr (Nat.le_trans h (own_ge HO k hk)))
theorem eq_of_get {α : Type} {xs ys : List α} (h : xs.length = ys.length) (k : ∀ j, j < xs.length → xs[j]? = ys[j]?) : xs = ys := by
  apply List.ext_getElem? 
  intro i
  rcases Nat.lt_or_ge i xs.length with h1 | h1
  · exact k i h1
  · rw [List.getElem?_eq_none h1, List.getElem?_eq_none (by omega)]
theorem take_snoc' {α : Type} {xs : List α} {k : Nat} {x : α} (h : xs[k]? = some x) : xs.take (k + 1) = xs.take k ++ [x] := by
  rw [List.take_add_one, h]; rfl
end Go.Proofs.Ythbojpaghbbnnaa
