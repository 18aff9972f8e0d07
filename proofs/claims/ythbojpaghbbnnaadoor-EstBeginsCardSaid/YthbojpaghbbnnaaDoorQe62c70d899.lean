/- A part of a claim: what its statement needs. No condition. -/
import Derived.Test.YthbojpaghbbnnaaDoorProg
import Derived.WalkKit
import Derived.Lib.Hide
import Derived.Maps.AppendAt
import Derived.Deep.AppendLies
import Derived.Deep.Draws
import Derived.Deep.QuietTactic
import Derived.BigQuiet
import Derived.Deep.RegionHeld3
import Derived.Deep.CutBlock
import Derived.Deep.DeepCutAuto
import Derived.Deep.LoopGhost
import Derived.Deep.OwnRows
import Derived.WideLaws
import Derived.OrdersHeld
namespace Go.Proofs.YthbojpaghbbnnaaDoor
open Go.RowKit
/-- Between the blocks lo and hi nothing has turned; no block is gone. -/
def Same (lo hi : Nat) (w w' : World) : Prop := w.heap.size ≤ w'.heap.size ∧ ∀ b, lo ≤ b → b < hi → w'.heap[b]? = w.heap[b]?
theorem Same.refl (lo hi : Nat) (w : World) : Same lo hi w w := ⟨Nat.le_refl _, fun _ _ _ => rfl⟩
theorem Same.trans {lo hi : Nat} {a b c : World} (h : Same lo hi a b) (k : Same lo hi b c) : Same lo hi a c := ⟨Nat.le_trans h.1 k.1, fun x h1 h2 => (k.2 x h1 h2).trans (h.2 x h1 h2)⟩
theorem Same.mono {lo hi lo' hi' : Nat} {w w' : World} (h : Same lo hi w w') (h1 : lo ≤ lo') (h2 : hi' ≤ hi) : Same lo' hi' w w' := ⟨h.1, fun b a c => h.2 b (by omega) (by omega)⟩
theorem same_below {B lo hi : Nat} {w w' : World} (h : Below B w w') (hb : hi ≤ B) : Same lo hi w w' := ⟨h.size, fun b _ h2 => h.block b (by omega)⟩
theorem same_grown {lo hi : Nat} {w w' : World} {row : Option Nat} (h : w.grownBy w' row) (hb : hi ≤ w.heap.size) (hr : ∀ k, row = some k → k < lo ∨ hi ≤ k) : Same lo hi w w' := ⟨h.size, fun b h1 h2 => h.block b (by omega) (fun e => by have := hr b e.symm; omega)⟩
theorem size_setCell (w : World) (a : Addr) (u : Value) : (w.setCell a u).heap.size = w.heap.size := by simp [World.setCell]
theorem same_set {lo hi : Nat} (w : World) (a : Addr) (u : Value) (h : a.block < lo ∨ hi ≤ a.block) : Same lo hi w (w.setCell a u) := ⟨by rw [size_setCell]; exact Nat.le_refl _, fun b h1 h2 => Below.heap_setCell w a u b (by omega)⟩
theorem same_alloc {lo hi : Nat} (w : World) (o : Obj) (h : hi ≤ w.heap.size) : Same lo hi w (w.alloc o) := ⟨by simp, fun b _ h2 => Below.heap_alloc w o b (by omega)⟩
theorem same_drewN {lo hi : Nat} (w : World) (n : Nat) : Same lo hi w (w.drewN n) := ⟨Nat.le_refl _, fun _ _ _ => rfl⟩
theorem below_drewN {B : Nat} {a w : World} (h : Below B a w) (n : Nat) : Below B a (w.drewN n) := ⟨h.os, h.tape, h.output, h.size, h.block⟩
/-- What a callee leaves, seen from the caller's begin. -/
theorem below_then {B : Nat} {w w1 w2 : World} (h : Below B w w1) (hB : B ≤ w1.heap.size) (k : Below w1.heap.size w1 w2) : Below B w w2 := h.trans (k.mono hB)
theorem below_then' {w w1 w2 : World} (h : Below w.heap.size w w1) (k : Below w1.heap.size w1 w2) : Below w.heap.size w w2 := h.trans (k.mono h.size)
/-- A slice of n elements of sz cells each reads as xs; its block lies from lo on and below hi. -/
def Sl (w : World) (lo hi sz : Nat) (v : Value) (n : Nat) (xs : List Value) : Prop :=
  hi ≤ w.heap.size ∧ xs.length = n * sz ∧ n ≤ maxLen ∧ ∃ A c, v = .slice A n c ∧ (0 < n → ∃ b off, A = some ⟨b, off, none⟩ ∧ lo ≤ b ∧ b < hi ∧ ∀ j, j < n * sz → w.cell? ⟨b, off + j, none⟩ = xs[j]?)
theorem Sl.frame {w w' : World} {lo hi sz n : Nat} {v : Value} {xs : List Value} (h : Sl w lo hi sz v n xs) (s : Same lo hi w w') : Sl w' lo hi sz v n xs := by
  obtain ⟨h0, h1, h2, A, c, h3, h4⟩ := h
  refine ⟨Nat.le_trans h0 s.1, h1, h2, A, c, h3, fun hn => ?_⟩
  obtain ⟨b, off, e, a1, a2, a3⟩ := h4 hn
  exact ⟨b, off, e, a1, a2, fun j hj => (World.cell?_of_block (s.2 b a1 a2)).trans (a3 j hj)⟩
theorem Sl.below {w w' : World} {lo hi sz n B : Nat} {v : Value} {xs : List Value} (h : Sl w lo hi sz v n xs) (b : Below B w w') (hB : hi ≤ B) : Sl w' lo hi sz v n xs := h.frame (same_below b hB)
theorem Sl.mono {w : World} {lo hi lo' hi' sz n : Nat} {v : Value} {xs : List Value} (h : Sl w lo hi sz v n xs) (h1 : lo' ≤ lo) (h2 : hi ≤ hi') (h3 : hi' ≤ w.heap.size) : Sl w lo' hi' sz v n xs := by
  obtain ⟨g0, g1, g2, A, c, g3, g4⟩ := h
  refine ⟨h3, g1, g2, A, c, g3, fun hn => ?_⟩
  obtain ⟨b, off, e, a1, a2, a3⟩ := g4 hn
  exact ⟨b, off, e, by omega, by omega, a3⟩
theorem Sl.empty (w : World) (lo hi sz : Nat) (A : Option Addr) (c : Nat) (h : hi ≤ w.heap.size) : Sl w lo hi sz (.slice A 0 c) 0 [] := ⟨h, by simp, by simp [maxLen], A, c, rfl, fun h => absurd h (by omega)⟩
theorem Sl.le {w : World} {lo hi sz n : Nat} {v : Value} {xs : List Value} (h : Sl w lo hi sz v n xs) : hi ≤ w.heap.size := h.1
theorem sl_own {w : World} {base sz n : Nat} {e : TypeId} {v : Value} {xs : List Value} (h : w.ownsRow base e sz v n xs) : Sl w base w.heap.size sz v n xs := by
  refine ⟨Nat.le_refl _, h.1, ?_, ?_⟩
  · rcases h.2 with ⟨_, rfl⟩ | ⟨g, cap, cur, rfl, _, _, h1, h2, _⟩
    · simp [maxLen]
    · omega
  · rcases h.2 with ⟨rfl, rfl⟩ | ⟨g, cap, cur, rfl, hb, hh, h1, h2, _⟩
    · exact ⟨none, 0, rfl, fun h => absurd h (by omega)⟩
    · refine ⟨_, _, rfl, fun hn => ⟨g, 0, rfl, hb, (Array.getElem?_eq_some_iff.1 hh).1, fun j hj => ?_⟩⟩
      rw [Nat.zero_add]
      exact h.cellAt j hj
section
variable {α : Type} {w : World} {lo hi : Nat} {v : Value} {xs : List α} {f : α → Value}
/-- One-cell elements. -/
def Sl1 (w : World) (lo hi : Nat) (f : α → Value) (v : Value) (xs : List α) : Prop := Sl w lo hi 1 v xs.length (xs.map f)
theorem Sl1.frame {w' : World} (h : Sl1 w lo hi f v xs) (s : Same lo hi w w') : Sl1 w' lo hi f v xs := Sl.frame h s
theorem Sl1.below {w' : World} {B : Nat} (h : Sl1 w lo hi f v xs) (b : Below B w w') (hB : hi ≤ B) : Sl1 w' lo hi f v xs := Sl.below h b hB
theorem Sl1.at_ {w' : World} (h : Sl1 w lo hi f v xs) (b : Below w.heap.size w w') : Sl1 w' lo hi f v xs := Sl.below h b h.1
theorem Sl1.mono {lo' hi' : Nat} (h : Sl1 w lo hi f v xs) (h1 : lo' ≤ lo) (h2 : hi ≤ hi') (h3 : hi' ≤ w.heap.size) : Sl1 w lo' hi' f v xs := Sl.mono h h1 h2 h3
theorem Sl1.form (h : Sl1 w lo hi f v xs) : xs.length ≤ 9223372036854775807 ∧ ∃ A c, v = .slice A xs.length c := by
  obtain ⟨_, h1, h2, A, c, h3, _⟩ := h
  exact ⟨by simpa [maxLen] using h2, A, c, h3⟩
theorem Sl1.get {A : Option Addr} {n c : Nat} (h : Sl1 w lo hi f (.slice A n c) xs) (k : Nat) (hk : k < xs.length) :
    ∃ b off x, A = some ⟨b, off, none⟩ ∧ lo ≤ b ∧ b < hi ∧ w.cell? ⟨b, off + k, none⟩ = some (f x) ∧ Hid (xs[k]? = some x) := by
  obtain ⟨_, _, _, A', c', e, h4⟩ := h
  injection e with e1 e2 e3
  subst e1
  obtain ⟨b, off, rfl, h3, h4, h5⟩ := h4 (by omega)
  refine ⟨b, off, xs[k], rfl, h3, h4, ?_, List.getElem?_eq_getElem hk⟩
  rw [h5 k (by omega), List.getElem?_map, List.getElem?_eq_getElem hk]
  rfl
theorem Sl1.all {A : Option Addr} {n c : Nat} (h : Sl1 w lo hi f (.slice A n c) xs) (h0 : 0 < xs.length) :
    ∃ b off, A = some ⟨b, off, none⟩ ∧ lo ≤ b ∧ b < hi ∧ ∀ k, ∀ hk : k < xs.length, w.cell? ⟨b, off + k, none⟩ = some (f xs[k]) := by
  obtain ⟨_, _, _, A', c', e, h4⟩ := h
  injection e with e1 e2 e3
  subst e1
  obtain ⟨b, off, rfl, h3, h4, h5⟩ := h4 (by omega)
  refine ⟨b, off, rfl, h3, h4, fun k hk => ?_⟩
  rw [h5 k (by omega), List.getElem?_map, List.getElem?_eq_getElem hk]
  rfl
theorem Sl1.own {base : Nat} {e : TypeId} {n : Nat} (h : w.ownsRow base e 1 v n (xs.map f)) : Sl1 w base w.heap.size f v xs := by
  have hn : n = xs.length := by have := h.1; simp at this; exact this.symm
  subst hn
  exact sl_own h
theorem Sl1.nil (w : World) (lo hi : Nat) (f : α → Value) (h : hi ≤ w.heap.size) : Sl1 w lo hi f (.slice none 0 0) [] := Sl.empty w lo hi 1 none 0 h
end
abbrev vi (n : Int) : Value := .int .i64 n
abbrev Ints (w : World) (lo hi : Nat) (v : Value) (xs : List Int) : Prop := Sl1 w lo hi (Value.int .i64) v xs
abbrev Bools (w : World) (lo hi : Nat) (v : Value) (xs : List Bool) : Prop := Sl1 w lo hi Value.bool v xs
theorem flat_get {α : Type} (enc : α → List Value) (sz : Nat) (hz : ∀ x, (enc x).length = sz) : ∀ (xs : List α) (k : Nat) (x : α), xs[k]? = some x → ∀ j, j < sz → (xs.flatMap enc)[k * sz + j]? = (enc x)[j]?
  | [], k, x, h, j, hj => by simp at h
  | y :: xs, 0, x, h, j, hj => by
    obtain rfl : y = x := by simpa using h
    rw [List.flatMap_cons, Nat.zero_mul, Nat.zero_add, List.getElem?_append_left (by rw [hz]; exact hj)]
  | y :: xs, k + 1, x, h, j, hj => by
    have h' : xs[k]? = some x := by simpa using h
    rw [List.flatMap_cons, List.getElem?_append_right (by rw [hz, Nat.succ_mul]; omega), hz, ← flat_get enc sz hz xs k x h' j hj, Nat.succ_mul, show k * sz + sz + j - sz = k * sz + j from by omega]
theorem flat_length {α : Type} (enc : α → List Value) (sz : Nat) (hz : ∀ x, (enc x).length = sz) (xs : List α) : (xs.flatMap enc).length = xs.length * sz := by
  induction xs with
  | nil => simp
  | cons x xs ih => rw [List.flatMap_cons, List.length_append, hz, ih, List.length_cons, Nat.succ_mul]; omega
section
variable {α : Type} {w : World} {lo hi sz : Nat} {v : Value} {xs : List α} {enc : α → List Value}
def SlS (w : World) (lo hi : Nat) (enc : α → List Value) (sz : Nat) (v : Value) (xs : List α) : Prop := Sl w lo hi sz v xs.length (xs.flatMap enc)
theorem SlS.frame {w' : World} (h : SlS w lo hi enc sz v xs) (s : Same lo hi w w') : SlS w' lo hi enc sz v xs := Sl.frame h s
theorem SlS.below {w' : World} {B : Nat} (h : SlS w lo hi enc sz v xs) (b : Below B w w') (hB : hi ≤ B) : SlS w' lo hi enc sz v xs := Sl.below h b hB
theorem SlS.at_ {w' : World} (h : SlS w lo hi enc sz v xs) (b : Below w.heap.size w w') : SlS w' lo hi enc sz v xs := Sl.below h b h.1
theorem SlS.mono {lo' hi' : Nat} (h : SlS w lo hi enc sz v xs) (h1 : lo' ≤ lo) (h2 : hi ≤ hi') (h3 : hi' ≤ w.heap.size) : SlS w lo' hi' enc sz v xs := Sl.mono h h1 h2 h3
theorem SlS.form (h : SlS w lo hi enc sz v xs) : xs.length ≤ 9223372036854775807 ∧ ∃ A c, v = .slice A xs.length c := by
  obtain ⟨_, h1, h2, A, c, h3, _⟩ := h
  exact ⟨by simpa [maxLen] using h2, A, c, h3⟩
theorem SlS.get {A : Option Addr} {n c : Nat} (h : SlS w lo hi enc sz (.slice A n c) xs) (hz : ∀ x, (enc x).length = sz) (k : Nat) (hk : k < xs.length) :
    ∃ b off x, A = some ⟨b, off, none⟩ ∧ lo ≤ b ∧ b < hi ∧ (∀ j, j < sz → w.cell? ⟨b, off + k * sz + j, none⟩ = (enc x)[j]?) ∧ Hid (xs[k]? = some x) := by
  obtain ⟨_, _, _, A', c', e, h4⟩ := h
  injection e with e1 e2 e3
  subst e1
  obtain ⟨b, off, rfl, h3, h4, h5⟩ := h4 (by omega)
  refine ⟨b, off, xs[k], rfl, h3, h4, fun j hj => ?_, List.getElem?_eq_getElem hk⟩
  have : k * sz + j < xs.length * sz := Nat.lt_of_lt_of_le (show k * sz + j < (k + 1) * sz by rw [Nat.succ_mul]; omega) (Nat.mul_le_mul_right _ hk)
  rw [Nat.add_assoc, h5 _ this, flat_get enc sz hz xs k xs[k] (List.getElem?_eq_getElem hk) j hj]
theorem SlS.own {base : Nat} {e : TypeId} {n : Nat} (hz : ∀ x, (enc x).length = sz) (hsz : 0 < sz) (h : w.ownsRow base e sz v n (xs.flatMap enc)) : SlS w base w.heap.size enc sz v xs := by
  have hn : n = xs.length := by
    have := h.1
    rw [flat_length enc sz hz] at this
    exact (Nat.eq_of_mul_eq_mul_right hsz this).symm
  subst hn
  exact sl_own h
theorem SlS.nil (w : World) (lo hi : Nat) (enc : α → List Value) (sz : Nat) (h : hi ≤ w.heap.size) : SlS w lo hi enc sz (.slice none 0 0) ([] : List α) := Sl.empty w lo hi sz none 0 h
end
def encP (p : Int × Int) : List Value := [.int .i64 p.1, .int .i64 p.2]
theorem encP_len (p : Int × Int) : (encP p).length = 2 := rfl
/-- A slice of pairs. -/
abbrev Prs (w : World) (lo hi : Nat) (v : Value) (ps : List (Int × Int)) : Prop := SlS w lo hi encP 2 v ps
def encC (c : (Int × Int) × Bool) : List Value := [.int .i64 c.1.1, .int .i64 c.1.2, .bool c.2]
theorem encC_len (c : (Int × Int) × Bool) : (encC c).length = 3 := rfl
/-- A slice of changes. -/
abbrev Chs (w : World) (lo hi : Nat) (v : Value) (cs : List ((Int × Int) × Bool)) : Prop := SlS w lo hi encC 3 v cs
theorem app_one {P : Program} {ops : Array Oper} {rest : List Oper} {o : Oper} {a : Act} {Q : Exit → Act → World → Prop} {W : World} (base : Nat) (hgd : o.guard = none) (s x : Operand) (t e : TypeId) (z : Value) (sz bytes : Nat)
    (ho : o.op = .call { callee := .builtin .append, args := #[s, x], argTypes := #[t, t] })
    (ht : P.underlying t = some (.slice e)) (hinfo : (P.info? e).map (fun i => (i.zero, i.size, i.bytes)) = some (some z, sz, bytes)) (hz : z.cells.size = sz) (hsz : 0 < sz) (hb0 : 0 < bytes)
    (v : Value) (n : Nat) (xs : List Value) (ys : Array Value) (hs : a.eval s = v) (hx : a.eval x = .slice (some ⟨W.heap.size, 0, none⟩) 1 1) (hy : ys.size = sz) (h1 : ∀ u ∈ ys.toList, u.oneCell' = true)
    (HO : W.ownsRow base e sz v n xs) (hbase : base ≤ W.heap.size) (hl : (n + 1) * bytes ≤ 140737488355328)
    (h : ∀ v1 w1, w1.ownsRow base e sz v1 (n + 1) (xs ++ ys.toList) → W.grownBy w1 v.ownBlock → (v1.ownBlock = v.ownBlock ∨ ∃ b, v1.ownBlock = some b ∧ W.heap.size ≤ b) → wpList P ops Q rest (a.put o.dst v1) w1) :
    wpList P ops Q (o :: rest) a (W.alloc (.cells ys e)) := by
  obtain ⟨i0, hi, hzz⟩ := Option.map_eq_some_iff.1 hinfo
  simp only [Prod.mk.injEq] at hzz
  obtain ⟨hz0, hz1, hz2⟩ := hzz
  have hlen : n + 1 ≤ 140737488355328 := Nat.le_trans (Nat.le_mul_of_pos_right _ hb0) hl
  refine wpList_append_own_at (W.alloc (.cells ys e)) hgd s x t ho base e i0 z sz bytes ht hi hz0 hz1 hz2 hz hsz v n xs hs (HO.alloc _) ⟨W.heap.size, 0, none⟩ 1 1 ys.toList hx (by simp [hy])
    (World.news_of_block (cs := ys) (t := e) (fr := (0, 0)) (heap_alloc_new W _)) h1 (by simp only [maxLen]; omega) hl (by simp; omega) ?_
  intro v1 w1 hown hg _ hat
  refine h v1 w1 hown (World.grownBy.trans (World.grownBy_alloc W _ _) hg) ?_
  rcases hat with hat | hat
  · exact .inl hat
  · exact .inr ⟨_, hat, by simp⟩
theorem mk_cap {P : Program} {W : World} {ops : Array Oper} {rest : List Oper} {o : Oper} {a : Act} {Q : Exit → Act → World → Prop} (base : Nat)
    (hg : o.guard = none) (l c : Operand) (t e : TypeId) (z : Value) (sz bytes : Nat) (hop : o.op = Op.makeSlice t l c)
    (ht : P.underlying t = some (.slice e)) (hinfo : (P.info? e).map (fun i => (i.zero, i.size, i.bytes)) = some (some z, sz, bytes)) (hb0 : 0 < bytes)
    (C : Int) (n : Nat) (hl : a.eval l = .int .i64 0) (hc : a.eval c = .int .i64 C) (hC : C = (n : Int)) (hn : n * bytes ≤ 140737488355328) (hB : base ≤ W.heap.size)
    (hK : ∀ w', w'.ownsRow base e sz (.slice (some ⟨W.heap.size, 0, none⟩) 0 n) 0 [] → W.grownBy w' none → wpList P ops Q rest (a.put o.dst (.slice (some ⟨W.heap.size, 0, none⟩) 0 n)) w') :
    wpList P ops Q (o :: rest) a W := by
  obtain ⟨i0, hi, hzz⟩ := Option.map_eq_some_iff.1 hinfo
  simp only [Prod.mk.injEq] at hzz
  obtain ⟨hz0, hz1, hz2⟩ := hzz
  have hm : n ≤ 140737488355328 := Nat.le_trans (Nat.le_mul_of_pos_right _ hb0) hn
  exact wpList_make_own W hg l c t hop base e i0 z sz ht hi hz0 hz1 .i64 .i64 C n hl hc hC (by rw [hz2, Nat.mul_comm]; omega) (by unfold maxLen; omega) hB hK
theorem madeCells_one (z : Value) (n : Nat) : (madeCells #[z] (n * 1)).toList = List.replicate n z := by rw [Nat.mul_one]; exact toList_madeCells_one z n
theorem mk_full {P : Program} {W : World} {ops : Array Oper} {rest : List Oper} {o : Oper} {a : Act} {Q : Exit → Act → World → Prop} (base : Nat)
    (hg : o.guard = none) (l c : Operand) (t e : TypeId) (z : Value) (bytes : Nat) (hop : o.op = Op.makeSlice t l c)
    (ht : P.underlying t = some (.slice e)) (hinfo : (P.info? e).map (fun i => (i.zero, i.size, i.bytes)) = some (some z, 1, bytes)) (hz : z.cells = #[z]) (hb0 : 0 < bytes)
    (L C : Int) (n : Nat) (hl : a.eval l = .int .i64 L) (hc : a.eval c = .int .i64 C) (hL : L = (n : Int)) (hC : C = (n : Int)) (hn : n * bytes ≤ 140737488355328) (hB : base ≤ W.heap.size)
    (hK : ∀ w', w'.ownsRow base e 1 (.slice (some ⟨W.heap.size, 0, none⟩) n n) n (List.replicate n z) → W.grownBy w' none → wpList P ops Q rest (a.put o.dst (.slice (some ⟨W.heap.size, 0, none⟩) n n)) w') :
    wpList P ops Q (o :: rest) a W := by
  obtain ⟨i0, hi, hzz⟩ := Option.map_eq_some_iff.1 hinfo
  simp only [Prod.mk.injEq] at hzz
  obtain ⟨hz0, hz1, hz2⟩ := hzz
  have hm : n ≤ 140737488355328 := Nat.le_trans (Nat.le_mul_of_pos_right _ hb0) hn
  refine wpList_make_full W hg l c t hop base e i0 z 1 ht hi hz0 hz1 .i64 .i64 L C n hl hc hL hC (by rw [hz2, Nat.mul_comm]; omega) (by unfold maxLen; omega) hB (fun w' h k => hK w' ?_ k)
  rw [hz, madeCells_one] at h
  exact h
theorem own_ge {w : World} {base sz n : Nat} {e : TypeId} {v : Value} {xs : List Value} (h : w.ownsRow base e sz v n xs) (k : Nat) (hk : v.ownBlock = some k) : base ≤ k := (h.lt k hk).1
theorem grown_of_below {w w1 : World} (h : Below w.heap.size w w1) (row : Option Nat) : w.grownBy w1 row := ⟨h.os, h.tape, h.output, h.size, fun i hi _ => h.block i hi⟩
theorem ownsRow_mono {w : World} {b b' s n : Nat} {e : TypeId} {v : Value} {xs : List Value} (h : w.ownsRow b e s v n xs) (hb : b' ≤ b) : w.ownsRow b' e s v n xs := by
  obtain ⟨h1, h2⟩ := h
  refine ⟨h1, h2.imp id ?_⟩
  rintro ⟨g, cap, cur, e1, e2, e3⟩
  exact ⟨g, cap, cur, e1, Nat.le_trans hb e2, e3⟩
theorem own_ne_type {w : World} {b b' s s' n n' : Nat} {e e' : TypeId} {v v' : Value} {xs xs' : List Value} (h : w.ownsRow b e s v n xs) (h' : w.ownsRow b' e' s' v' n' xs') (hne : e ≠ e') : v.ownBlock = none ∨ v.ownBlock ≠ v'.ownBlock := by
  rcases h.2 with ⟨rfl, _⟩ | ⟨g, cap, cur, rfl, _, hh, _⟩
  · exact .inl rfl
  · refine .inr fun hk => ?_
    rcases h'.2 with ⟨rfl, _⟩ | ⟨g', cap', cur', rfl, _, hh', _⟩
    · simp [Value.ownBlock] at hk
    · have : g = g' := by simpa [Value.ownBlock] using hk
      subst this
      rw [hh] at hh'
      injection hh' with hh'
      injection hh' with _ ht
      exact hne ht
/-- The world behind an append, seen from the call's begin. -/
theorem below_app {w W w1 : World} {base sz n : Nat} {e : TypeId} {v : Value} {xs : List Value} (hb : Below w.heap.size w W) (HO : W.ownsRow base e sz v n xs) (hg : W.grownBy w1 v.ownBlock) (h : w.heap.size ≤ base) : Below w.heap.size w w1 :=
  hb.grown hg hb.size (fun k hk => Nat.le_trans h (own_ge HO k hk))
theorem same_app {lo hi : Nat} {W w1 : World} {base sz n : Nat} {e : TypeId} {v : Value} {xs : List Value} (HO : W.ownsRow base e sz v n xs) (hg : W.grownBy w1 v.ownBlock) (h : hi ≤ base) (hs : hi ≤ W.heap.size) : Same lo hi W w1 :=
  same_grown hg hs (fun k hk => .inr (Nat.le_trans h (own_ge HO k hk)))
theorem eq_of_get {α : Type} {xs ys : List α} (h : xs.length = ys.length) (k : ∀ j, j < xs.length → xs[j]? = ys[j]?) : xs = ys := by
  apply List.ext_getElem? 
  intro i
  rcases Nat.lt_or_ge i xs.length with h1 | h1
  · exact k i h1
  · rw [List.getElem?_eq_none h1, List.getElem?_eq_none (by omega)]
theorem take_snoc' {α : Type} {xs : List α} {k : Nat} {x : α} (h : xs[k]? = some x) : xs.take (k + 1) = xs.take k ++ [x] := by
  rw [List.take_add_one, h]; rfl
end Go.Proofs.YthbojpaghbbnnaaDoor
namespace Go.Proofs.YthbojpaghbbnnaaDoor
set_option linter.unusedVariables false
set_option linter.unusedSimpArgs false
structure Gr where
  n : Nat
  adj : Nat → Nat → Bool
structure Gr.Ok (G : Gr) : Prop where
  symm : ∀ u v, G.adj u v = G.adj v u
  irr : ∀ u, G.adj u u = false
  rng : ∀ u v, G.adj u v = true → u < G.n
  small : G.n ≤ 16777216
theorem Gr.Ok.rng' {G : Gr} (h : G.Ok) {u v : Nat} (k : G.adj u v = true) : v < G.n := h.rng v u (by rw [← h.symm]; exact k)
/-- The neighbours of u, rising. -/
def Gr.nb (G : Gr) (u : Nat) : List Nat := (List.range G.n).filter (G.adj u)
def up (l : List Nat) : List Int := l.map (fun x : Nat => (x : Int))
theorem up_length (l : List Nat) : (up l).length = l.length := by simp [up]
theorem Gr.mem_nb {G : Gr} (h : G.Ok) {u v : Nat} : v ∈ G.nb u ↔ G.adj u v = true := by
  unfold Gr.nb
  rw [List.mem_filter, List.mem_range]
  exact ⟨fun h => h.2, fun k => ⟨h.rng' k, k⟩⟩
theorem Gr.nb_out {G : Gr} (h : G.Ok) {u : Nat} (hu : G.n ≤ u) : G.nb u = [] := by
  unfold Gr.nb
  rw [List.filter_eq_nil_iff]
  intro v _ k
  have := h.rng u v k
  omega
theorem Gr.nb_sorted (G : Gr) (u : Nat) : (G.nb u).Pairwise (· < ·) := List.Pairwise.filter _ List.pairwise_lt_range
theorem Gr.nb_nodup (G : Gr) (u : Nat) : (G.nb u).Nodup := List.Pairwise.imp (fun h => Nat.ne_of_lt h) (G.nb_sorted u)
theorem Gr.nb_length_le (G : Gr) (u : Nat) : (G.nb u).length ≤ G.n := by
  have := List.length_filter_le (G.adj u) (List.range G.n)
  simpa [Gr.nb] using this
/-- The edges, each once, the lesser vertex first, by rising first ones. -/
def Gr.pairs (G : Gr) : List (Nat × Nat) := (List.range G.n).flatMap (fun u => ((G.nb u).filter (fun v => decide (u < v))).map (fun v => (u, v)))
theorem Gr.mem_pairs {G : Gr} (h : G.Ok) {u v : Nat} : (u, v) ∈ G.pairs ↔ u < v ∧ G.adj u v = true := by
  unfold Gr.pairs
  simp only [List.mem_flatMap, List.mem_range, List.mem_map, List.mem_filter, Prod.mk.injEq]
  constructor
  · rintro ⟨a, ha, b, ⟨hb, hl⟩, rfl, rfl⟩
    exact ⟨by simpa using hl, (Gr.mem_nb h).1 hb⟩
  · rintro ⟨hl, hk⟩
    exact ⟨u, h.rng u v hk, v, ⟨(Gr.mem_nb h).2 hk, by simpa using hl⟩, rfl, rfl⟩
theorem nodup_map {α β : Type} {f : α → β} (hf : ∀ a b, f a = f b → a = b) {l : List α} (h : l.Nodup) : (l.map f).Nodup := by
  unfold List.Nodup at *
  rw [List.pairwise_map]
  exact h.imp (fun hne e => hne (hf _ _ e))
theorem Gr.pairs_nodup (G : Gr) : G.pairs.Nodup := by
  unfold Gr.pairs List.Nodup
  rw [List.pairwise_flatMap]
  refine ⟨fun u _ => ?_, ?_⟩
  · exact nodup_map (fun a b h => by injection h) ((G.nb_nodup u).filter _)
  · refine List.Pairwise.imp ?_ List.pairwise_lt_range
    intro a b hab p hp q hq
    simp only [List.mem_map] at hp hq
    obtain ⟨x, _, rfl⟩ := hp
    obtain ⟨y, _, rfl⟩ := hq
    intro e
    injection e with e1 e2
    omega
def Gr.edges (G : Gr) : Nat := G.pairs.length
/-- The list E of keys tells the edges of G. -/
def Tells (E : List (Int × Int)) (G : Gr) : Prop := E.Nodup ∧ ∀ a b : Int, (a, b) ∈ E ↔ ∃ u v : Nat, a = (u : Int) ∧ b = (v : Int) ∧ u < v ∧ G.adj u v = true
theorem perm_of_mem {α : Type} [DecidableEq α] {l k : List α} (h1 : l.Nodup) (h2 : k.Nodup) (h : ∀ x, x ∈ l ↔ x ∈ k) : l.Perm k := (List.perm_ext_iff_of_nodup h1 h2).2 h
theorem Tells.length {E : List (Int × Int)} {G : Gr} (hG : G.Ok) (h : Tells E G) : E.length = G.edges := by
  have : E.Perm (G.pairs.map (fun p => ((p.1 : Int), (p.2 : Int)))) := by
    refine perm_of_mem h.1 (nodup_map (fun a b e => by injection e with e1 e2; exact Prod.ext (by omega) (by omega)) G.pairs_nodup) (fun p => ?_)
    obtain ⟨a, b⟩ := p
    rw [h.2, List.mem_map]
    constructor
    · rintro ⟨u, v, rfl, rfl, hl, hk⟩
      exact ⟨(u, v), (Gr.mem_pairs hG).2 ⟨hl, hk⟩, rfl⟩
    · rintro ⟨⟨u, v⟩, hp, e⟩
      injection e with e1 e2
      have := (Gr.mem_pairs hG).1 hp
      exact ⟨u, v, e1.symm, e2.symm, this.1, this.2⟩
  rw [this.length_eq, List.length_map]
  rfl
end Go.Proofs.YthbojpaghbbnnaaDoor
namespace Go.Proofs.YthbojpaghbbnnaaDoor.Z
open Go
set_option linter.unusedVariables false
/-- Kinds of plain values. -/
inductive T where
  | int (k : IntKind)
  | bool
  | flt
  | list (t : T)
  | pair (a b : T)
  | obj (n : Nat)
  | ptr (t : T)
  | one (t : T)
  deriving DecidableEq
/-- What a pointer to an object that is never changed stands for. -/
def OT : Nat → Type
  | 0 => Gr
  | 1 => Gr
  | 2 => List Int
  | _ => Unit
abbrev T.den : T → Type
  | .int _ => Int
  | .bool => Bool
  | .flt => Nat
  | .list t => List t.den
  | .pair a b => a.den × b.den
  | .obj n => Option (OT n)
  | .ptr t => Option t.den
  | .one t => t.den
def T.dflt : (t : T) → t.den
  | .int _ => (0 : Int)
  | .bool => false
  | .flt => (0 : Nat)
  | .list _ => []
  | .pair a b => (a.dflt, b.dflt)
  | .obj _ => none
  | .ptr _ => none
  | .one t => t.dflt
def T.size : T → Nat
  | .pair a b => a.size + b.size
  | .one t => t.size
  | _ => 1
def T.isPair : T → Bool
  | .pair _ _ => true
  | .one _ => true
  | _ => false
/-- Does it lead on to other memory? -/
def T.led : T → Bool
  | .list _ => true
  | .obj _ => true
  | .ptr _ => true
  | .one t => t.led
  | .pair a b => a.led || b.led
  | _ => false
/-- Does what it leads to turn where a row turns that it was read from? (What a pointer leads to does not.) -/
def T.weak : T → Bool
  | .list _ => true
  | .obj _ => true
  | .ptr _ => false
  | .one t => t.weak
  | .pair a b => a.weak || b.weak
  | _ => false
def T.cast {a b : T} (h : a = b) (x : a.den) : b.den := h ▸ x
/-- The part of kind u that begins at cell k. -/
def T.sub (u : T) : (t : T) → Nat → t.den → Option u.den
  | .int p, k, x => if h : T.int p = u ∧ k = 0 then some (T.cast h.1 x) else none
  | .bool, k, x => if h : T.bool = u ∧ k = 0 then some (T.cast h.1 x) else none
  | .flt, k, x => if h : T.flt = u ∧ k = 0 then some (T.cast h.1 x) else none
  | .list t, k, x => if h : T.list t = u ∧ k = 0 then some (T.cast h.1 x) else none
  | .obj n, k, x => if h : T.obj n = u ∧ k = 0 then some (T.cast h.1 x) else none
  | .ptr t, k, x => if h : T.ptr t = u ∧ k = 0 then some (T.cast h.1 x) else none
  | .one t, k, x => if h : T.one t = u ∧ k = 0 then some (T.cast h.1 x) else T.sub u t k x
  | .pair a b, k, x => if h : T.pair a b = u ∧ k = 0 then some (T.cast h.1 x) else if k < a.size then T.sub u a k x.1 else T.sub u b (k - a.size) x.2
/-- The same, with another part there. -/
def T.upd (u : T) (y : u.den) : (t : T) → Nat → t.den → Option t.den
  | .int p, k, _ => if h : u = T.int p ∧ k = 0 then some (T.cast h.1 y) else none
  | .bool, k, _ => if h : u = T.bool ∧ k = 0 then some (T.cast h.1 y) else none
  | .flt, k, _ => if h : u = T.flt ∧ k = 0 then some (T.cast h.1 y) else none
  | .list t, k, _ => if h : u = T.list t ∧ k = 0 then some (T.cast h.1 y) else none
  | .obj n, k, _ => if h : u = T.obj n ∧ k = 0 then some (T.cast h.1 y) else none
  | .ptr t, k, _ => if h : u = T.ptr t ∧ k = 0 then some (T.cast h.1 y) else none
  | .one t, k, x => if h : u = T.one t ∧ k = 0 then some (T.cast h.1 y) else T.upd u y t k x
  | .pair a b, k, x => if h : u = T.pair a b ∧ k = 0 then some (T.cast h.1 y) else if k < a.size then (T.upd u y a k x.1).map (fun z => (z, x.2)) else (T.upd u y b (k - a.size) x.2).map (fun z => (x.1, z))
/-- What a temporary holds. -/
inductive A where
  | un
  | und
  | v (t : T) (x : t.den)
  | nls
  | nlp
  | row (i : Nat)
  | cut (i n : Nat) (full : Bool)
  | adr (i j k s : Nat) (t : T)
  | ref (t : T) (x : t.den)
  | box (i k : Nat)
  | tnil
  | tcons (a b : A)
  | str (a : A)
/-- Memory of the call's own: a row of elements, or a struct. -/
inductive Ob where
  | row (e : TypeId) (t : T) (xs : List t.den)
  | cells (e : TypeId) (l : List A)
  | gone
structure St where
  tm : List A
  ob : List Ob
def atn {α : Type} (d : α) : List α → Nat → α
  | [], _ => d
  | x :: _, 0 => x
  | _ :: l, n + 1 => atn d l n
def setn {α : Type} (y : α) : List α → Nat → List α
  | [], _ => []
  | _ :: l, 0 => y :: l
  | x :: l, n + 1 => x :: setn y l n
def mapn {α : Type} (f : α → α) : List α → List α
  | [] => []
  | x :: l => f x :: mapn f l
def St.put (st : St) (d : Option Tmp) (x : A) : St :=
  match d with
  | some d => ⟨setn x st.tm d, st.ob⟩
  | none => st
def lit : Value → A
  | .int k n => .v (.int k) n
  | .bool b => .v .bool b
  | .float .f64 n => .v .flt n
  | .pointer none => .nlp
  | .slice none 0 0 => .nls
  | _ => .un
def ev (st : St) : Operand → A
  | .tmp t => atn .un st.tm t
  | .const v => lit v
  | _ => .un
inductive Und where
  | sc
  | ptr
  | sl (e : TypeId)
  | st (fs : List (Nat × TypeId))
structure TI where
  t : T
  u : Und
  bytes : Nat
abbrev Tab := List (TypeId × TI)
def Tab.find : Tab → TypeId → Option TI
  | [], _ => none
  | (k, i) :: l, t => if k = t then some i else Tab.find l t
def A.toV (ob : List Ob) (u : T) : A → Option u.den
  | .v t x => if h : t = u then some (T.cast h x) else none
  | .nls => match u with
    | .list _ => some []
    | _ => none
  | .nlp => match u with
    | .obj _ => some none
    | .ptr _ => some none
    | _ => none
  | .row i => match atn .gone ob i with
    | .row _ t xs => if h : T.list t = u then some (T.cast h xs) else none
    | _ => none
  | .cut i n _ => match atn .gone ob i with
    | .row _ t xs => if h : T.list t = u then some (T.cast (a := .list t) h (List.take n xs)) else none
    | _ => none
  | _ => none
/-- Row i's content in place of the row. -/
def A.frz (o : Ob) (i : Nat) : A → A
  | .row j => if j = i then (match o with
    | .row _ t xs => .v (.list t) xs
    | _ => .un) else .row j
  | .cut j n f => if j = i then (match o with
    | .row _ t xs => .v (.list t) (List.take n xs)
    | _ => .un) else .cut j n f
  | .adr j a b s t => if j = i then .un else .adr j a b s t
  | .box j k => if j = i then .un else .box j k
  | .tcons a b => .tcons (A.frz o i a) (A.frz o i b)
  | .str a => .str (A.frz o i a)
  | .un => .un
  | .und => .und
  | .v t x => .v t x
  | .nls => .nls
  | .nlp => .nlp
  | .ref t x => .ref t x
  | .tnil => .tnil
def Ob.frz (o : Ob) (i : Nat) : Ob → Ob
  | .row e t xs => .row e t xs
  | .cells e l => .cells e (mapn (A.frz o i) l)
  | .gone => .gone
def St.frz (st : St) (i : Nat) : St :=
  match atn .gone st.ob i with
  | .row e t xs => ⟨mapn (A.frz (.row e t xs) i) st.tm, setn .gone (mapn (Ob.frz (.row e t xs) i) st.ob) i⟩
  | _ => st
/-- Nobody knows of object i any more. -/
def St.kill (st : St) (i : Nat) : St := ⟨mapn (A.frz .gone i) st.tm, mapn (Ob.frz .gone i) st.ob⟩
/-- May a single cell hold it? -/
def A.oneB : A → Bool
  | .v (.pair _ _) _ => false
  | .v (.one _) _ => false
  | .v _ _ => true
  | .nls => true
  | .nlp => true
  | .row _ => true
  | .cut _ _ _ => true
  | .adr _ _ _ _ _ => true
  | .ref _ _ => true
  | .box _ _ => true
  | _ => false
/-- May it be read as a value for ever? (A row that was handed in to be written may not.) -/
def A.thawB (own : Nat) : A → Bool
  | .row i => decide (own ≤ i)
  | .cut i _ _ => decide (own ≤ i)
  | _ => true
/-- What is to be frozen ahead of being read as a value for ever. -/
def A.thaw (x : A) (st : St) : St :=
  match x with
  | .row i => st.frz i
  | .cut i _ _ => st.frz i
  | _ => st
def bitsC (op : BinOp) (p : IntKind) (a b : Int) : Int :=
  match op with
  | .and => p.wrap ((BitVec.ofInt p.bits a &&& BitVec.ofInt p.bits b).toNat : Int)
  | .or => p.wrap ((BitVec.ofInt p.bits a ||| BitVec.ofInt p.bits b).toNat : Int)
  | .xor => p.wrap ((BitVec.ofInt p.bits a ^^^ BitVec.ofInt p.bits b).toNat : Int)
  | _ => p.wrap ((BitVec.ofInt p.bits a &&& ~~~(BitVec.ofInt p.bits b)).toNat : Int)
theorem bitsZ_ex (op : BinOp) (p : IntKind) (a b : Int) : ∃ z : Int, z = bitsC op p a b := ⟨_, rfl⟩
/-- The same; what it is stands behind a proof, so that no comparison of two terms ever looks into it. -/
noncomputable def bitsZ (op : BinOp) (p : IntKind) (a b : Int) : Int := Classical.choose (bitsZ_ex op p a b)
theorem bitsZ_eq (op : BinOp) (p : IntKind) (a b : Int) : bitsZ op p a b = bitsC op p a b := Classical.choose_spec (bitsZ_ex op p a b)
theorem pick_ex (big : Bool) (x y : Int) : ∃ z : Int, z = if big then (if y > x then y else x) else (if y < x then y else x) := ⟨_, rfl⟩
/-- The greater, or the lesser; what it is stands behind a proof, so that no comparison of two terms ever looks into it. -/
noncomputable def pickZ (big : Bool) (x y : Int) : Int := Classical.choose (pick_ex big x y)
theorem pickZ_eq (big : Bool) (x y : Int) : pickZ big x y = if big then (if y > x then y else x) else (if y < x then y else x) := Classical.choose_spec (pick_ex big x y)
theorem pickZ_max (x y : Int) : pickZ true x y = if y > x then y else x := pickZ_eq true x y
theorem pickZ_min (x y : Int) : pickZ false x y = if y < x then y else x := pickZ_eq false x y
section
variable {R : Type}
noncomputable def intZ (op : BinOp) (p : IntKind) (a : Int) (q : IntKind) (b : Int) (k : A → Option R) : Option R :=
  match op with
  | .shl => if 0 ≤ b then k (.v (.int p) (p.wrap (a * 2 ^ (min b.toNat p.bits)))) else none
  | .shr => if 0 ≤ b then k (.v (.int p) (a.fdiv (2 ^ (min b.toNat p.bits)))) else none
  | .add => if p = q then k (.v (.int p) (p.wrap (a + b))) else none
  | .sub => if p = q then k (.v (.int p) (p.wrap (a - b))) else none
  | .mul => if p = q then k (.v (.int p) (p.wrap (a * b))) else none
  | .quo => if p = q then (if b = 0 then none else k (.v (.int p) (p.wrap (a.tdiv b)))) else none
  | .rem => if p = q then (if b = 0 then none else k (.v (.int p) (a.tmod b))) else none
  | .and => if p = q then k (.v (.int p) (bitsZ .and p a b)) else none
  | .or => if p = q then k (.v (.int p) (bitsZ .or p a b)) else none
  | .xor => if p = q then k (.v (.int p) (bitsZ .xor p a b)) else none
  | .andNot => if p = q then k (.v (.int p) (bitsZ .andNot p a b)) else none
  | .eql => if p = q then k (.v .bool (a == b)) else none
  | .neq => if p = q then k (.v .bool (a != b)) else none
  | .lss => if p = q then k (.v .bool (decide (a < b))) else none
  | .leq => if p = q then k (.v .bool (decide (a ≤ b))) else none
  | .gtr => if p = q then k (.v .bool (decide (a > b))) else none
  | .geq => if p = q then k (.v .bool (decide (a ≥ b))) else none
def fltZ (op : BinOp) (a b : Nat) (k : A → Option R) : Option R :=
  match op with
  | .quo => match FloatKind.f64.format.div a b with
    | some r => k (.v .flt r)
    | none => none
  | .eql => k (.v .bool (FloatKind.f64.format.order a b == some .eq))
  | .neq => k (.v .bool (FloatKind.f64.format.order a b != some .eq))
  | .lss => k (.v .bool (FloatKind.f64.format.order a b == some .lt))
  | .geq => k (.v .bool (FloatKind.f64.format.order a b == some .gt || FloatKind.f64.format.order a b == some .eq))
  | _ => none
def eqZ (op : BinOp) (b : Bool) (k : A → Option R) : Option R :=
  match op with
  | .eql => k (.v .bool b)
  | .neq => k (.v .bool (!b))
  | _ => none
noncomputable def binZ (tab : Tab) (op : BinOp) (xt : TypeId) (x y : A) (k : A → Option R) : Option R :=
  match x, y with
  | .v (.int p) a, .v (.int q) b => intZ op p a q b k
  | .v .bool a, .v .bool b => match tab.find xt with
    | some ⟨.bool, .sc, _⟩ => eqZ op (a == b) k
    | _ => none
  | .v .flt a, .v .flt b => fltZ op a b k
  | .v (.obj _) a, .nlp => match tab.find xt with
    | some ⟨_, .ptr, _⟩ => eqZ op (Option.isNone a) k
    | _ => none
  | .v (.ptr _) a, .nlp => match tab.find xt with
    | some ⟨_, .ptr, _⟩ => eqZ op (Option.isNone a) k
    | _ => none
  | .nlp, .nlp => match tab.find xt with
    | some ⟨_, .ptr, _⟩ => eqZ op true k
    | _ => none
  | .box _ _, .nlp => match tab.find xt with
    | some ⟨_, .ptr, _⟩ => eqZ op false k
    | _ => none
  | _, _ => none
def unZ (op : UnOp) (x : A) (k : A → Option R) : Option R :=
  match op, x with
  | .neg, .v (.int p) a => k (.v (.int p) (p.wrap (0 - a)))
  | .not, .v .bool a => k (.v .bool (!a))
  | _, _ => none
def convZ (tab : Tab) (src dst : TypeId) (x : A) (k : A → Option R) : Option R :=
  match x, tab.find src, tab.find dst with
  | .v (.int _) a, some _, some ⟨.int q, .sc, _⟩ => k (.v (.int q) (q.wrap a))
  | .v (.int _) a, some _, some ⟨.flt, .sc, _⟩ => k (.v .flt (FloatKind.f64.nearest a))
  | _, _, _ => none
/-- Field f of struct type s: its first cell, its kind. -/
def fldZ (tab : Tab) (s : TypeId) (f : Nat) : Option (Nat × T) :=
  match tab.find s with
  | some ⟨_, .st fs, _⟩ => match atn (0, 0) fs f with
    | (o, ft) => if f < fs.length then (match tab.find ft with
      | some i => some (o, i.t)
      | none => none) else none
  | _ => none
def fieldZ (tab : Tab) (s : TypeId) (x : A) (f : Nat) (k : A → Option R) : Option R :=
  match fldZ tab s f, x with
  | some (o, u), .v (.pair a b) y => match T.sub u (.pair a b) o y with
    | some z => k (.v u z)
    | none => none
  | _, _ => none
def fieldAddrZ (tab : Tab) (s : TypeId) (x : A) (f : Nat) (k : A → Option R) : Option R :=
  match fldZ tab s f, x with
  | some (o, u), .ref t y => match T.sub u t o y with
    | some z => k (.ref u z)
    | none => none
  | some (o, u), .v (.ptr t) y => if Option.isSome y = true then (match T.sub u t o (Option.getD y t.dflt) with
    | some z => k (.ref u z)
    | none => none) else none
  | some (o, u), .adr i j c s _ => k (.adr i j (c + o) s u)
  | some (o, _), .box i c => k (.box i (c + o))
  | _, _ => none
def lenZ (ob : List Ob) (x : A) (k : Nat → Option R) : Option R :=
  match x with
  | .v (.list _) xs => k (List.length xs)
  | .nls => k 0
  | .row i => match atn .gone ob i with
    | .row _ _ xs => k xs.length
    | _ => none
  | .cut _ n _ => k n
  | _ => none
def elemZ (tab : Tab) (t : TypeId) : Option (TypeId × TI) :=
  match tab.find t with
  | some ⟨_, .sl e, _⟩ => match tab.find e with
    | some i => some (e, i)
    | none => none
  | _ => none
def indexAddrZ (tab : Tab) (ob : List Ob) (t : TypeId) (x i : A) (k : A → Option R) : Option R :=
  match elemZ tab t, x, i with
  | some (_, e), .v (.list u) xs, .v (.int _) n => if u = e.t then (if 0 ≤ n then (if n < (List.length xs : Int) then k (.ref u (List.getD xs n.toNat u.dflt)) else none) else none) else none
  | some (_, e), .row m, .v (.int _) n => match atn .gone ob m with
    | .row _ u xs => if u = e.t then (if 0 ≤ n then (if n < (xs.length : Int) then k (.adr m n.toNat 0 u.size u) else none) else none) else none
    | _ => none
  | some (_, e), .cut m c _, .v (.int _) n => match atn .gone ob m with
    | .row _ u _ => if u = e.t then (if 0 ≤ n then (if n < (c : Int) then k (.adr m n.toNat 0 u.size u) else none) else none) else none
    | _ => none
  | _, _, _ => none
def sliceZ (tab : Tab) (ob : List Ob) (t : TypeId) (x : A) (lo hi mx : Option A) (k : A → Option R) : Option R :=
  match elemZ tab t, x, lo, hi, mx with
  | some (_, e), .v (.list u) xs, some (.v (.int _) l), none, none => if u = e.t then (if 0 ≤ l then (if l ≤ (List.length xs : Int) then k (.v (.list u) (List.drop l.toNat xs)) else none) else none) else none
  | some (_, e), .v (.list u) xs, none, some (.v (.int _) h), none => if u = e.t then (if 0 ≤ h then (if h ≤ (List.length xs : Int) then k (.v (.list u) (List.take h.toNat xs)) else none) else none) else none
  | some (_, e), .v (.list u) xs, some (.v (.int _) l), some (.v (.int _) h), none => if u = e.t then (if 0 ≤ l then (if l ≤ h then (if h ≤ (List.length xs : Int) then k (.v (.list u) (List.drop l.toNat (List.take h.toNat xs))) else none) else none) else none) else none
  | some (_, e), .row i, none, some (.v (.int _) h), none => match atn .gone ob i with
    | .row _ u xs => if u = e.t then (if 0 ≤ h then (if h ≤ (xs.length : Int) then k (.cut i h.toNat true) else none) else none) else none
    | _ => none
  | some (_, e), .row i, none, some (.v (.int _) h), some (.v (.int _) m) => match atn .gone ob i with
    | .row _ u xs => if u = e.t then (if 0 ≤ h then (if h ≤ m then (if m ≤ (xs.length : Int) then k (.cut i h.toNat false) else none) else none) else none) else none
    | _ => none
  | some (_, e), .cut i _ true, none, some (.v (.int _) h), none => match atn .gone ob i with
    | .row _ u xs => if u = e.t then (if 0 ≤ h then (if h ≤ (xs.length : Int) then k (.cut i h.toNat true) else none) else none) else none
    | _ => none
  | _, _, _, _, _ => none
def extractZ : A → Nat → (A → Option R) → Option R
  | .tcons a _, 0, k => k a
  | .tcons _ b, n + 1, k => extractZ b n k
  | _, _, _ => none
noncomputable def bestZ (big : Bool) : Int → List A → IntKind → (A → Option R) → Option R
  | x, [], p, k => k (.v (.int p) x)
  | x, .v (.int _) y :: l, p, k => bestZ big (pickZ big x y) l p k
  | _, _ :: _, _, _ => none
noncomputable def builtinZ (tab : Tab) (st : St) (b : Builtin) (ts : List TypeId) (xs : List A) (k : A → Option R) : Option R :=
  match b, xs with
  | .len, [x] => match ts with
    | t :: _ => match elemZ tab t with
      | some _ => lenZ st.ob x (fun n => k (.v (.int .i64) (n : Int)))
      | none => none
    | [] => none
  | .max, .v (.int p) x :: l => bestZ true x l p k
  | .min, .v (.int p) x :: l => bestZ false x l p k
  | _, _ => none
def buildZ (tab : Tab) (st : St) (s : TypeId) (t : T) : List (Nat × Operand) → t.den → Option t.den
  | [], x => some x
  | (f, y) :: l, x => match fldZ tab s f with
    | some (o, u) => match A.toV [] u (ev st y) with
      | some z => match T.upd u z t o x with
        | some x' => buildZ tab st s t l x'
        | none => none
      | none => none
    | none => none
/-- Does a single cell hold it, whatever it is? -/
def cellB (ob : List Ob) : A → Bool
  | .row i => match atn .gone ob i with
    | .row _ _ _ => true
    | _ => false
  | x => x.oneB
def zeroA : T → List A
  | .pair a b => zeroA a ++ zeroA b
  | .list _ => [.nls]
  | .int p => [.v (.int p) (0 : Int)]
  | .bool => [.v .bool false]
  | .flt => [.v .flt (0 : Nat)]
  | .obj n => [.v (.obj n) none]
  | .ptr t => [.v (.ptr t) none]
  | .one t => zeroA t
/-- A struct's value, cell by cell (a row among them); a field that is left out is its type's zero. -/
def strZ (tab : Tab) (st : St) (s : TypeId) : Nat → List A → List (Nat × Operand) → Option A
  | _, [], [] => some .tnil
  | _, [], _ :: _ => none
  | n, z :: zs, [] => match strZ tab st s (n + 1) zs [] with
    | some a => some (.tcons z a)
    | none => none
  | n, z :: zs, (f, y) :: l => if f = n then (match fldZ tab s f with
      | some (o, u) => if o = n ∧ u.isPair = false ∧ cellB st.ob (ev st y) = true then (match strZ tab st s (n + 1) zs l with
        | some a => some (.tcons (ev st y) a)
        | none => none) else none
      | none => none)
    else (match strZ tab st s (n + 1) zs ((f, y) :: l) with
      | some a => some (.tcons z a)
      | none => none)
def isTup : A → Bool
  | .tcons _ b => isTup b
  | .tnil => true
  | _ => false
def listA : A → List A
  | .tcons a b => a :: listA b
  | _ => []
/-- Operations that look at no memory. -/
noncomputable def pureZ (tab : Tab) (st : St) (o : Op) (k : A → Option R) : Option R :=
  match o with
  | .move x => k (ev st x)
  | .assign x => k (ev st x)
  | .pick c a b => match ev st c with
    | .v .bool x => if x = true then k (ev st a) else k (ev st b)
    | _ => none
  | .binOp op xt x y _ => binZ tab op xt (ev st x) (ev st y) k
  | .unOp op _ x => unZ op (ev st x) k
  | .convert s d x => convZ tab s d (ev st x) k
  | .nilCheck x => match ev st x with
    | .box i c => k (.box i c)
    | .adr i j c s t => k (.adr i j c s t)
    | .ref t x => k (.ref t x)
    | .v (.obj n) x => if Option.isSome x = true then k (.v (.obj n) x) else none
    | .v (.ptr t) x => if Option.isSome x = true then k (.ref t (Option.getD x t.dflt)) else none
    | _ => none
  | .fieldAddr s x f => fieldAddrZ tab s (ev st x) f k
  | .field s x f => fieldZ tab s (ev st x) f k
  | .indexAddr t x i => indexAddrZ tab st.ob t (ev st x) (ev st i) k
  | .slice t x lo hi mx => sliceZ tab st.ob t (ev st x) (lo.map (ev st)) (hi.map (ev st)) (mx.map (ev st)) k
  | .extract x i => extractZ (ev st x) i k
  | .build s ps => match tab.find s with
    | some ⟨t, .st _, _⟩ => match buildZ tab st s t ps.toList t.dflt with
      | some x => k (.v t x)
      | none => match strZ tab st s 0 (zeroA t) ps.toList with
        | some a => k (.str a)
        | none => none
    | _ => none
  | .call ⟨.builtin b, xs, ts⟩ => builtinZ tab st b ts.toList (xs.toList.map (ev st)) k
  | _ => none
/-- A struct's value out of the cells of a call's own struct. -/
def gath (l : List A) : (t : T) → Nat → Option t.den
  | .pair a b, c => match gath l a c, gath l b (c + a.size) with
    | some x, some y => some (x, y)
    | _, _ => none
  | .int p, c => A.toV [] (.int p) (atn .un l c)
  | .bool, c => A.toV [] .bool (atn .un l c)
  | .flt, c => A.toV [] .flt (atn .un l c)
  | .list t, c => A.toV [] (.list t) (atn .un l c)
  | .obj n, c => A.toV [] (.obj n) (atn .un l c)
  | .ptr t, c => A.toV [] (.ptr t) (atn .un l c)
  | .one t, c => gath l t c
/-- A load. -/
def tupA : List A → A
  | [] => .tnil
  | x :: l => .tcons x (tupA l)
def loadZ (tab : Tab) (st : St) (t : TypeId) (a : A) (k : A → Option R) : Option R :=
  match tab.find t, a with
  | some i, .ref u x => if u = i.t then k (.v u x) else none
  | some i, .adr m j c s u => match atn .gone st.ob m with
    | .row _ w xs => if u = i.t ∧ s = w.size then (match T.sub u w c (List.getD xs j w.dflt) with
      | some z => k (.v u z)
      | none => none) else none
    | _ => none
  | some i, .box m c => match atn .gone st.ob m with
    | .cells _ l => if i.t.isPair = true then (match gath l i.t c with
      | some y => k (.v i.t y)
      | none => if c = 0 ∧ l.length = i.t.size then k (.str (tupA l)) else none) else if c < l.length then k (atn .un l c) else none
    | _ => none
  | _, _ => none
end
def A.refs : A → List Nat
  | .row i => [i]
  | .cut i _ _ => [i]
  | .adr i _ _ _ _ => [i]
  | .box i _ => [i]
  | .tcons a b => A.refs a ++ A.refs b
  | .str a => A.refs a
  | _ => []
def Ob.refs : Ob → List Nat
  | .cells _ l => l.flatMap A.refs
  | _ => []
/-- A cell of a struct that is handed over to be written: a value, or a row (mv: the row may lie elsewhere behind the call). -/
inductive Fd where
  | v (t : T)
  | r (e : TypeId) (t : T) (mv : Bool)
def fsT : List Fd → T
  | [] => .bool
  | .v t :: l => .pair t (fsT l)
  | .r _ t _ :: l => .pair (.list t) (fsT l)
def fsN : List Fd → Nat
  | [] => 0
  | .v _ :: l => fsN l
  | .r _ _ _ :: l => fsN l + 1
def fsLed : List Fd → Bool
  | [] => false
  | .v t :: l => t.weak || fsLed l
  | .r _ t _ :: l => t.weak || fsLed l
/-- cutp: a slice that ends ahead of its row's end. val: a value; own: a row of the caller's, or a new one; bx: a pointer to a struct of the caller's; nbx: nil, or a pointer to a new struct. -/
inductive PM where
  | val (t : T)
  | own (e : TypeId) (t : T)
  | bx (e : TypeId) (fs : List Fd)
  | nbx (e : TypeId) (fs : List Fd)
  | cutp (e : TypeId) (t : T)
def PM.ty : PM → T
  | .val t => t
  | .own _ t => .list t
  | .bx _ fs => fsT fs
  | .nbx _ fs => .ptr (fsT fs)
  | .cutp _ t => .pair (.list t) (.int .i64)
def Ds : List T → Type
  | [] => Unit
  | t :: l => t.den × Ds l
def muts : List PM → List T
  | [] => []
  | .val _ :: l => muts l
  | .own _ t :: l => .list t :: muts l
  | .bx _ fs :: l => fsT fs :: muts l
  | .nbx _ _ :: l => muts l
  | .cutp _ t :: l => .list t :: muts l
structure Sig where
  ps : List PM
  rs : List PM
  pre : Ds (ps.map PM.ty) → Bool
  fn : Ds (ps.map PM.ty) → Ds (muts ps ++ rs.map PM.ty)
  fresh : Bool
/-- How a piece of code ends. -/
inductive Ex where
  | nm
  | ex (id : Nat)
  | rt
structure Head where
  keep : List (Nat × Option (Sum (TypeId × T) T))
/-- The orders in which a region may run: one after another, or one of several. -/
inductive Ords
  | nil
  | step (i : Nat) (t : Ords)
  | alt (i : Nat) (t o : Ords)
structure Env where
  tab : Tab
  sg : List (FuncId × Sig)
  ord : Nat → List Nat
  frk : Nat → Option Ords
  head : Nat → Head
  tail : Nat → Ex → Head
  lp : Nat → St → ∀ {R : Type}, (Ex → St → Option R) → Option R
  own : Nat
  fx : Nat → Bool
  rg : Nat → Bool := fun _ => false
def findSig : List (FuncId × Sig) → FuncId → Option Sig
  | [], _ => none
  | (k, s) :: l, f => if k = f then some s else findSig l f
/-- The cells of a struct, its rows being objects n, n + 1, ..; those rows. -/
def fsA : (l : List Fd) → (fsT l).den → Nat → List A
  | [], _, _ => []
  | .v t :: l, x, n => .v t x.1 :: fsA l x.2 n
  | .r _ _ _ :: l, x, n => .row n :: fsA l x.2 (n + 1)
def fsO : (l : List Fd) → (fsT l).den → List Ob
  | [], _ => []
  | .v _ :: l, x => fsO l x.2
  | .r e t _ :: l, x => .row e t x.1 :: fsO l x.2
def cellsOf (ob : List Ob) (i : Nat) : List A := match atn .gone ob i with
  | .cells _ l => l
  | _ => []
/-- A struct's content (nl: a nil row is an empty one). -/
def readF (nl : Bool) (ob : List Ob) : (fs : List Fd) → List A → Option (fsT fs).den
  | [], [] => some false
  | .v t :: fs, x :: l => match A.toV [] t x, readF nl ob fs l with
    | some y, some ys => some (y, ys)
    | _, _ => none
  | .r e t _ :: fs, .row j :: l => match atn .gone ob j with
    | .row e' u xs => if h : u = t ∧ e' = e then (match readF nl ob fs l with
      | some ys => some (T.cast (a := .list u) (b := .list t) (h.1 ▸ rfl) xs, ys)
      | none => none) else none
    | _ => none
  | .r _ t _ :: fs, .nls :: l => if nl = true then (match readF nl ob fs l with
    | some ys => some (([] : List t.den), ys)
    | none => none) else none
  | _, _ => none
def rIdx : List Fd → List A → List Nat
  | .v _ :: fs, _ :: l => rIdx fs l
  | .r _ _ _ :: fs, .row j :: l => j :: rIdx fs l
  | .r _ _ _ :: fs, _ :: l => rIdx fs l
  | _, _ => []
def mIdx : List Fd → List A → List Nat
  | .v _ :: fs, _ :: l => mIdx fs l
  | .r _ _ mv :: fs, .row j :: l => if mv = true then j :: mIdx fs l else mIdx fs l
  | .r _ _ _ :: fs, _ :: l => mIdx fs l
  | _, _ => []
/-- The rows that it names itself. -/
def A.rowOf : A → List Nat
  | .row i => [i]
  | .cut i _ _ => [i]
  | _ => []
/-- A struct's value, its rows read as they are now. -/
def gathV (ob : List Ob) (l : List A) : (t : T) → Nat → Option t.den
  | .pair a b, c => match gathV ob l a c, gathV ob l b (c + a.size) with
    | some x, some y => some (x, y)
    | _, _ => none
  | .int p, c => A.toV ob (.int p) (atn .un l c)
  | .bool, c => A.toV ob .bool (atn .un l c)
  | .flt, c => A.toV ob .flt (atn .un l c)
  | .list t, c => A.toV ob (.list t) (atn .un l c)
  | .obj n, c => A.toV ob (.obj n) (atn .un l c)
  | .ptr t, c => A.toV ob (.ptr t) (atn .un l c)
  | .one t, c => gathV ob l t c
def A.tupB : A → Bool
  | .tnil => true
  | .tcons _ b => A.tupB b
  | _ => false
/-- What is lent: a value; a struct's rows may be rows of the caller's. -/
def A.toW (ob : List Ob) (u : T) (x : A) : Option u.den := match x with
  | .str a => if u.isPair && A.tupB a && (listA a).length == u.size then gathV ob (listA a) u 0 else none
  | x => A.toV ob u x
def A.rowsW : A → List Nat
  | .str a => (listA a).flatMap A.rowOf
  | x => A.rowOf x
def args (ob : List Ob) : (ps : List PM) → List A → Option (Ds (ps.map PM.ty))
  | [], [] => some ()
  | .val t :: ps, x :: xs => match A.toW ob t x, args ob ps xs with
    | some y, some ys => some (y, ys)
    | _, _ => none
  | .own e t :: ps, .row i :: xs => match atn .gone ob i with
    | .row e' u l => if h : u = t ∧ e' = e then (match args ob ps xs with
      | some ys => some (T.cast (a := .list u) (b := .list t) (h.1 ▸ rfl) l, ys)
      | none => none) else none
    | _ => none
  | .cutp e t :: ps, .cut i n true :: xs => match atn .gone ob i with
    | .row e' u l => if h : u = t ∧ e' = e then (match args ob ps xs with
      | some ys => some ((T.cast (a := .list u) (b := .list t) (h.1 ▸ rfl) l, (n : Int)), ys)
      | none => none) else none
    | _ => none
  | .bx e fs :: ps, .box i 0 :: xs => match atn .gone ob i with
    | .cells e' l => if e' = e then (match readF false ob fs l, args ob ps xs with
      | some y, some ys => some (y, ys)
      | _, _ => none) else none
    | _ => none
  | _, _ => none
/-- The objects that are handed over to be written: their numbers. -/
def ownArgs (ob : List Ob) : List PM → List A → List Nat
  | .own _ _ :: ps, .row i :: xs => i :: ownArgs ob ps xs
  | .cutp _ _ :: ps, .cut i _ _ :: xs => i :: ownArgs ob ps xs
  | .bx _ fs :: ps, .box i _ :: xs => i :: (rIdx fs (cellsOf ob i) ++ ownArgs ob ps xs)
  | _ :: ps, _ :: xs => ownArgs ob ps xs
  | _, _ => []
/-- Those that may lie elsewhere behind the call. -/
def movArgs (ob : List Ob) : List PM → List A → List Nat
  | .bx _ fs :: ps, .box i _ :: xs => mIdx fs (cellsOf ob i) ++ movArgs ob ps xs
  | _ :: ps, _ :: xs => movArgs ob ps xs
  | _, _ => []
def valRows : List PM → List A → List Nat
  | .val _ :: ps, x :: xs => A.rowsW x ++ valRows ps xs
  | _ :: ps, _ :: xs => valRows ps xs
  | _, _ => []
def backA : (fs : List Fd) → (fsT fs).den → List A → List A
  | .v t :: fs, x, _ :: l => .v t x.1 :: backA fs x.2 l
  | .r _ _ _ :: fs, x, a :: l => a :: backA fs x.2 l
  | _, _, _ => []
def backO : (fs : List Fd) → (fsT fs).den → List A → List Ob → List Ob
  | .v _ :: fs, x, _ :: l, ob => backO fs x.2 l ob
  | .r e t _ :: fs, x, .row j :: l, ob => backO fs x.2 l (setn (.row e t x.1) ob j)
  | _, _, _, ob => ob
/-- What a call leaves in the objects that it was handed; its results. (o: the objects ahead of the call.) -/
def giveBack (o : List Ob) : (ps : List PM) → List A → {rs : List T} → Ds (muts ps ++ rs) → List Ob → Option (List Ob × Ds rs)
  | [], _, _, d, ob => some (ob, d)
  | .val _ :: ps, _ :: xs, _, d, ob => giveBack o ps xs d ob
  | .own e t :: ps, .row i :: xs, _, d, ob => giveBack o ps xs d.2 (setn (.row e t d.1) ob i)
  | .cutp e t :: ps, .cut i _ _ :: xs, _, d, ob => giveBack o ps xs d.2 (setn (.row e t d.1) ob i)
  | .bx e fs :: ps, .box i _ :: xs, _, d, ob => giveBack o ps xs d.2 (backO fs d.1 (cellsOf o i) (setn (.cells e (backA fs d.1 (cellsOf o i))) ob i))
  | _, _, _, _, _ => none
section
variable {R : Type}
/-- The results, as the caller has them. -/
def resK : (rs : List PM) → Ds (rs.map PM.ty) → List Ob → (List A → List Ob → Option R) → Option R
  | [], _, ob, k => k [] ob
  | .val t :: rs, d, ob, k => resK rs d.2 ob (fun l ob' => k (.v t d.1 :: l) ob')
  | .own e t :: rs, d, ob, k => resK rs d.2 (ob ++ [.row e t d.1]) (fun l ob' => k (.row ob.length :: l) ob')
  | .nbx e fs :: rs, d, ob, k => if Option.isNone (α := (fsT fs).den) d.1 = true then resK rs d.2 (ob ++ List.replicate (1 + fsN fs) .gone) (fun l ob' => k (.nlp :: l) ob')
      else resK rs d.2 (ob ++ (.cells e (fsA fs (Option.getD (α := (fsT fs).den) d.1 (fsT fs).dflt) (ob.length + 1)) :: fsO fs (Option.getD (α := (fsT fs).den) d.1 (fsT fs).dflt))) (fun l ob' => k (.box ob.length 0 :: l) ob')
  | .cutp e t :: rs, d, ob, k => resK rs d.2 (ob ++ [.row e t d.1.1]) (fun l ob' => k (.cut ob.length (Int.toNat d.1.2) true :: l) ob')
  | .bx _ _ :: _, _, _, _ => none
end
def oneA : List A → A
  | [x] => x
  | l => tupA l
def nodupB : List Nat → Bool
  | [] => true
  | x :: l => !(l.contains x) && nodupB l
def anyLed : List PM → Bool
  | [] => false
  | .val t :: l => t.weak || anyLed l
  | .own _ t :: l => t.weak || anyLed l
  | .bx _ fs :: l => fsLed fs || anyLed l
  | .nbx _ fs :: l => fsLed fs || anyLed l
  | .cutp _ t :: l => t.weak || anyLed l
def ownLed : List PM → Bool
  | [] => false
  | .val _ :: l => ownLed l
  | .own _ t :: l => t.weak || ownLed l
  | .bx _ fs :: l => fsLed fs || ownLed l
  | .nbx _ _ :: l => ownLed l
  | .cutp _ t :: l => t.weak || ownLed l
/-- May what it gives lead into what it was handed to read? (fresh: it does not.) -/
def Sig.led (s : Sig) : Bool := !s.fresh && (anyLed s.rs || ownLed s.ps)
def frzAll : List Nat → St → St
  | [], st => st
  | i :: l, st => frzAll l (st.frz i)
def scat : (t : T) → t.den → List A
  | .pair a b, x => scat a x.1 ++ scat b x.2
  | .int p, x => [.v (.int p) x]
  | .bool, x => [.v .bool x]
  | .flt, x => [.v .flt x]
  | .list t, x => [.v (.list t) x]
  | .obj n, x => [.v (.obj n) x]
  | .ptr t, x => [.v (.ptr t) x]
  | .one t, x => scat t x
def partsV (ob : List Ob) (u : T) : Nat → List (Nat × A) → Option (List u.den)
  | _, [] => some []
  | n, (i, x) :: l => if i = n then (match A.toV ob u x, partsV ob u (n + 1) l with
    | some y, some ys => some (y :: ys)
    | _, _ => none) else none
def thawAllB (own : Nat) : List A → Bool
  | [] => true
  | x :: l => x.thawB own && thawAllB own l
def thawAll : List A → St → St
  | [], st => st
  | x :: l, st => thawAll l (x.thaw st)
section
variable {R : Type}
/-- Nobody but the struct itself knows of the rows that may move. -/
def movFree (ob : List Ob) (tm : List A) (os ms : List Nat) : Bool := ms.all (fun j => tm.all (fun x => !(x.refs.contains j)) && (List.range ob.length).all (fun i => os.contains i || !((Ob.refs (atn .gone ob i)).contains j)))
/-- A value that is named. -/
def letZ {α β : Type} (x : α) (f : α → β) : β := f x
def callZ (E : Env) (f : FuncId) (xs : List A) (d : Option Tmp) (st : St) (k : St → Option R) : Option R :=
  match findSig E.sg f with
  | some s =>
    if nodupB (ownArgs st.ob s.ps xs) && (ownArgs st.ob s.ps xs).all (fun i => !((valRows s.ps xs).contains i)) && (!s.led || (valRows s.ps xs).all (fun i => decide (E.own ≤ i))) && (movArgs st.ob s.ps xs).all (fun i => decide (E.own ≤ i) || !(E.fx i)) then
      (match args st.ob s.ps xs with
      | some a => if s.pre a = true then (match (if s.led = true then frzAll (valRows s.ps xs) st else st) with
        | st1 => if movFree st1.ob st1.tm (ownArgs st.ob s.ps xs) (movArgs st.ob s.ps xs) = true then letZ (s.fn a) (fun z => match giveBack st.ob s.ps xs z st1.ob with
          | some (ob2, r) => resK s.rs r ob2 (fun l ob3 => k (St.put ⟨st1.tm, ob3⟩ d (oneA l)))
          | none => none) else none) else none
      | none => none)
    else none
  | none => none
def newRow (e : TypeId) (t : T) (xs : List t.den) (d : Option Tmp) (st : St) (k : St → Option R) : Option R :=
  k (St.put ⟨st.tm, st.ob ++ [.row e t xs]⟩ d (.row st.ob.length))
def appC (own : Nat) (e : TypeId) (i : TI) (ys : List i.t.den) (d : Option Tmp) (st : St) (k : St → Option R) : A → Option R
  | .nls => if ys.length * i.bytes ≤ 140737488355328 then newRow e i.t ys d st k else none
  | .row m => match atn .gone st.ob m with
    | .row e' u xs => if h : u = i.t ∧ e' = e ∧ own ≤ m then (if (xs.length + ys.length) * i.bytes ≤ 140737488355328 then
        (match st.kill m with
        | st' => k (St.put ⟨st'.tm, setn (.row e i.t (T.cast (a := .list u) (b := .list i.t) (h.1 ▸ rfl) xs ++ ys)) st'.ob m⟩ d (.row m))) else none) else none
    | _ => none
  | _ => none
def appendZ (own : Nat) (tab : Tab) (t : TypeId) (x y : A) (d : Option Tmp) (st : St) (k : St → Option R) : Option R :=
  match elemZ tab t with
  | some (e, i) => match A.toV st.ob (.list i.t) y with
    | some ys => if i.t.led = true then (if y.thawB own = true then appC own e i ys d (y.thaw st) k x else none) else appC own e i ys d st k x
    | none => none
  | none => none
def storeZ (own : Nat) (tab : Tab) (t : TypeId) (a x : A) (st : St) (k : St → Option R) : Option R :=
  match tab.find t, a with
  | some i, .adr m j c s u => if u = i.t ∧ x.thawB own = true then (match A.toV st.ob u x, x.thaw st with
    | some y, st => match atn .gone st.ob m with
      | .row e w xs => if s = w.size then match T.upd u y w c (List.getD xs j w.dflt) with
        | some z => if j < xs.length then k ⟨st.tm, setn (.row e w (xs.set j z)) st.ob m⟩ else none
        | none => none
        else none
      | _ => none
    | _, _ => none) else none
  | some i, .box m c => match atn .gone st.ob m with
    | .cells e l => if i.t.isPair = false ∧ c < l.length ∧ x.oneB = true then k ⟨st.tm, setn (.cells e (setn x l c)) st.ob m⟩
      else if i.t.isPair = true ∧ c = 0 ∧ l.length = i.t.size then (match x with
        | .v t' y => if t' = i.t then k ⟨st.tm, setn (.cells e (scat t' y)) st.ob m⟩ else none
        | .str a => if isTup a = true ∧ (listA a).length = l.length then k ⟨st.tm, setn (.cells e (listA a)) st.ob m⟩ else none
        | _ => none) else none
    | _ => none
  | _, _ => none
def isZero : Operand → Bool
  | .const (.int .i64 n) => n == 0
  | _ => false
/-- Operations that make or change memory. -/
def effZ (E : Env) (o : Oper) (st : St) (k : St → Option R) : Option R :=
  match o.op with
  | .call ⟨.value (.func f), xs, _⟩ => callZ E f (xs.toList.map (ev st)) o.dst st k
  | .call ⟨.builtin .append, xs, ts⟩ => match xs.toList, ts.toList with
    | [x, y], [t, t'] => if t = t' then appendZ E.own E.tab t (ev st x) (ev st y) o.dst st k else none
    | _, _ => none
  | .makeSlice t l c => match elemZ E.tab t, ev st l, ev st c with
    | some (e, i), .v (.int .i64) n, .v (.int .i64) m =>
      if isZero l = true then (if 0 ≤ m then (if m.toNat * i.bytes ≤ 140737488355328 then newRow e i.t [] o.dst st k else none) else none)
      else if n = m then (if 0 ≤ n then (if n.toNat * i.bytes ≤ 140737488355328 then newRow e i.t (List.replicate n.toNat i.t.dflt) o.dst st k else none) else none) else none
    | _, _, _ => none
  | .buildSlice t n ps => match elemZ E.tab t with
    | some (e, i) => match partsV st.ob i.t 0 (ps.toList.map (fun p => (p.1, ev st p.2))) with
      | some l => if List.length l = n ∧ n * i.t.size ≤ 16777216 ∧ thawAllB E.own (ps.toList.map (fun p => ev st p.2)) = true then newRow e i.t l o.dst (thawAll (ps.toList.map (fun p => ev st p.2)) st) k else none
      | none => none
    | none => none
  | .alloc e => match E.tab.find e with
    | some i => k (St.put ⟨st.tm, st.ob ++ [.cells e (zeroA i.t)]⟩ o.dst (.box st.ob.length 0))
    | none => none
  | .box e x => match ev st x with
    | .str a => if isTup a = true then k (St.put ⟨st.tm, st.ob ++ [.cells e (listA a)]⟩ o.dst (.box st.ob.length 0)) else none
    | _ => match E.tab.find e with
      | some i => match A.toV st.ob i.t (ev st x), (ev st x).thaw st with
        | some y, st' => if (ev st x).thawB E.own = true then k (St.put ⟨st'.tm, st'.ob ++ [.cells e (scat i.t y)]⟩ o.dst (.box st'.ob.length 0)) else none
        | _, _ => none
      | none => none
  | .store t a x => storeZ E.own E.tab t (ev st a) (ev st x) st (fun st => k (St.put st o.dst .und))
  | _ => none
def isPure : Op → Bool
  | .load _ _ => false
  | .call ⟨.builtin .append, _, _⟩ => false
  | .call ⟨.builtin _, _, _⟩ => true
  | .call _ => false
  | .makeSlice _ _ _ => false
  | .buildSlice _ _ _ => false
  | .alloc _ => false
  | .box _ _ => false
  | .store _ _ _ => false
  | _ => true
def isLoad : Op → Bool
  | .load _ _ => true
  | _ => false
/-- A struct that is to be loaded whole: the rows in its cells are frozen first. -/
def softZ (own : Nat) (tab : Tab) (st : St) (t : TypeId) (x : A) : Option St := match x with
  | .box m _ => match tab.find t with
    | some i => if i.t.isPair = true then (match atn .gone st.ob m with
      | .cells _ l => match gath l i.t 0 with
        | some _ => none
        | none => if (l.flatMap A.rowOf).all (fun j => decide (own ≤ j)) = true then some (frzAll (l.flatMap A.rowOf) st) else none
      | _ => none) else none
    | none => none
  | _ => none
/-- In some functions no row is frozen so. -/
def softE (E : Env) (st : St) (t : TypeId) (x : A) : Option St := match E.ord 999999 with
  | [] => softZ E.own E.tab st t x
  | _ :: _ => none
/-- One operation. -/
noncomputable def op1 (E : Env) (o : Oper) (st : St) (k : St → Option R) : Option R :=
  if isPure o.op = true then pureZ E.tab st o.op (fun x => k (St.put st o.dst x)) else match o.op with
  | .load t a => match softE E st t (ev st a) with
    | none => loadZ E.tab st t (ev st a) (fun x => k (St.put st o.dst x))
    | some st' => loadZ E.tab st' t (ev st' a) (fun x => k (St.put st' o.dst x))
  | _ => effZ E o st k
def dstOf (l : List Oper) (j : Nat) : Option Tmp :=
  match l, j with
  | [], _ => none
  | o :: _, 0 => o.dst
  | _ :: l, j + 1 => dstOf l j
/-- In some functions the way round a guarded operation is left out. -/
def skipZ (E : Env) (b : Bool) (x : Option R) : Option R := match E.ord 999998 with
  | [] => x
  | _ :: _ => match b with
    | true => none
    | false => x
theorem skipZ_some {E : Env} {b : Bool} {x : Option R} {r : R} (h : skipZ E b x = some r) : x = some r := by
  unfold skipZ at h
  split at h
  · exact h
  · split at h
    · cases h
    · exact h
/-- One operation, under its guard. -/
noncomputable def opG (E : Env) (l : List Oper) (o : Oper) (st : St) (k : St → Option R) : Option R :=
  match o.guard with
  | none => op1 E o st k
  | some (j, b) => match dstOf l j with
    | some d => match atn .un st.tm d with
      | .v .bool x => if x = b then op1 E o ⟨setn (.v .bool b) st.tm d, st.ob⟩ k else skipZ E b (k (St.put ⟨setn (.v .bool (!b)) st.tm d, st.ob⟩ o.dst .und))
      | .und => k (St.put st o.dst .und)
      | _ => none
    | none => none
noncomputable def opsL (E : Env) (all : List Oper) : List Oper → St → (St → Option R) → Option R
  | [], st, k => k st
  | o :: l, st, k => opG E all o st (fun st => opsL E all l st k)
noncomputable def opsI (E : Env) (all : List Oper) : List Nat → St → (St → Option R) → Option R
  | [], st, k => k st
  | i :: l, st, k => match all[i]? with
    | some o => opG E all o st (fun st => opsI E all l st k)
    | none => none

open Classical in
/-- Two ways that must come to one. -/
noncomputable def bothK (x y : Option R) : Option R := if x = y then x else none
theorem bothK_some {x y : Option R} {r : R} (h : bothK x y = some r) : x = some r ∧ y = some r := by
  unfold bothK at h
  split at h
  · rename_i e
    exact ⟨h, e ▸ h⟩
  · cases h
theorem bothK_of {x y z : Option R} (h1 : x = z) (h2 : y = z) : bothK x y = z := by
  unfold bothK
  rw [if_pos (h1.trans h2.symm)]
  exact h1
noncomputable def opsT (E : Env) (all : List Oper) : Ords → St → (St → Option R) → Option R
  | .nil, st, k => k st
  | .step i t, st, k => match all[i]? with
    | some o => opG E all o st (fun st => opsT E all t st k)
    | none => none
  | .alt i t o, st, k => bothK (match all[i]? with
    | some o => opG E all o st (fun st => opsT E all t st k)
    | none => none) (opsT E all o st k)
/-! ### Heads of loops: what is kept, and in which shape -/
def A.ren (f : Nat → Nat) : A → A
  | .row i => .row (f i)
  | .cut i n b => .cut (f i) n b
  | .adr i j k s t => .adr (f i) j k s t
  | .box i k => .box (f i) k
  | .tcons a b => .tcons (A.ren f a) (A.ren f b)
  | .str a => .str (A.ren f a)
  | .un => .un
  | .und => .und
  | .v t x => .v t x
  | .nls => .nls
  | .nlp => .nlp
  | .ref t x => .ref t x
  | .tnil => .tnil
def Ob.ren (f : Nat → Nat) : Ob → Ob
  | .row e t xs => .row e t xs
  | .cells e l => .cells e (mapn (A.ren f) l)
  | .gone => .gone
def addNew (acc : List Nat) : List Nat → List Nat
  | [] => acc
  | i :: l => addNew (if acc.contains i then acc else acc ++ [i]) l
def posOf (i : Nat) : List Nat → Nat
  | [] => 0
  | x :: l => if x = i then 0 else posOf i l + 1
/-- A nil list in a struct's cell is an empty row. -/
def nlsAt (e : TypeId) (t : T) (i j : Nat) (st : St) : St := match atn .gone st.ob i with
  | .cells e' l => match atn .un l j with
    | .nls => ⟨st.tm, setn (.cells e' (setn (.row st.ob.length) l j)) (st.ob ++ [.row e t []]) i⟩
    | _ => st
  | _ => st
def nlsAll (e : TypeId) (t : T) (i : Nat) : Nat → St → St
  | 0, st => st
  | j + 1, st => nlsAt e t i j (nlsAll e t i j st)
def cellsN : Ob → Nat
  | .cells _ l => l.length
  | _ => 0
def shape (own : Nat) (st : St) : List (Nat × Option (Sum (TypeId × T) T)) → St
  | [] => st
  | (_, none) :: l => shape own st l
  | (d, some (.inl (e, t))) :: l => shape own (match atn .un st.tm d with
    | .nls => ⟨setn (.row st.ob.length) st.tm d, st.ob ++ [.row e t []]⟩
    | .box i _ => nlsAll e t i (cellsN (atn .gone st.ob i)) st
    | _ => st) l
  | (d, some (.inr t)) :: l => shape own (match atn .un st.tm d with
    | .nls => ⟨setn (.v (.list t) []) st.tm d, st.ob⟩
    | .nlp => ⟨setn (match t with
      | .obj n => .v (.obj n) none
      | .ptr t => .v (.ptr t) none
      | _ => .nlp) st.tm d, st.ob⟩
    | x => if x.thawB own = true then x.thaw st else st) l
def keepB : List (Nat × Option (Sum (TypeId × T) T)) → Nat → Bool
  | [], _ => false
  | (d, _) :: l, i => if d = i then true else keepB l i
def only (h : List (Nat × Option (Sum (TypeId × T) T))) : Nat → List A → List A
  | _, [] => []
  | n, x :: l => (if keepB h n then x else .un) :: only h (n + 1) l
def canon (own : Nat) (h : Head) (st : St) (k : St → Option R) : Option R :=
  match shape own st h.keep with
  | st => match only h.keep 0 st.tm with
    | tm => match addNew (List.range own) (tm.flatMap A.refs) with
      | r1 => match addNew r1 (r1.flatMap (fun i => Ob.refs (atn .gone st.ob i))) with
        | r => if nodupB r && r.all (fun i => decide (i < st.ob.length)) && (List.range own).all (fun i => decide (i < r.length) && atn 0 r i == i) && (r.flatMap (fun i => Ob.refs (atn .gone st.ob i))).all (fun i => r.contains i) && (tm.flatMap A.refs).all (fun i => r.contains i) then
            k ⟨mapn (A.ren (fun i => posOf i r)) tm, r.map (fun i => Ob.ren (fun i => posOf i r) (atn .gone st.ob i))⟩ else none

/-! ### Code -/
def firstRegion : Code → Nat
  | .region id _ _ => id
  | .seq a _ => firstRegion a
  | .cond _ a _ => firstRegion a
  | .block _ a => firstRegion a
  | .loop a => firstRegion a
  | _ => 0
def loopN (body : St → (Ex → St → Option R) → Option R) (cn : St → (St → Option R) → Option R) (cx : Ex → St → (St → Option R) → Option R) : Nat → St → (Ex → St → Option R) → Option R
  | 0, _, _ => none
  | n + 1, st, K => body st (fun e st' => match e with
    | .nm => cn st' (fun st => loopN body cn cx n st K)
    | .ex i => cx (.ex i) st' (K (.ex i))
    | .rt => cx .rt st' (K .rt))
/-- Code; of a loop its summary. -/
noncomputable def exec (E : Env) : Code → St → (Ex → St → Option R) → Option R
  | .skip, st, K => K .nm st
  | .region id o dr, st, K => if dr = true then (match E.rg id with
    | true => canon E.own (E.head (1000000 + id)) st (fun st => E.lp (1000000 + id) st K)
    | false => match E.frk id with
      | some t => opsT E o.toList t st (K .nm)
      | none => opsI E o.toList (E.ord id) st (K .nm)) else opsL E o.toList o.toList st (K .nm)
  | .seq a b, st, K => exec E a st (fun e st' => match e with
    | .nm => exec E b st' K
    | .ex i => K (.ex i) st'
    | .rt => K .rt st')
  | .cond c a b, st, K => match ev st c with
    | .v .bool x => if x = true then exec E a st K else exec E b st K
    | _ => none
  | .block id a, st, K => exec E a st (fun e st' => match e with
    | .nm => K .nm st'
    | .ex i => if i = id then K .nm st' else K (.ex i) st'
    | .rt => K .rt st')
  | .loop a, st, K => canon E.own (E.head (firstRegion a)) st (fun st => E.lp (firstRegion a) st K)
  | .exit id, st, K => K (.ex id) st
  | .ret, st, K => K .rt st
  | _, _, _ => none
end
def startTm : (ps : List PM) → Ds (ps.map PM.ty) → Nat → List A
  | [], _, _ => []
  | .val t :: ps, d, n => .v t d.1 :: startTm ps d.2 n
  | .own _ _ :: ps, d, n => .row n :: startTm ps d.2 (n + 1)
  | .bx _ fs :: ps, d, n => .box n 0 :: startTm ps d.2 (n + (1 + fsN fs))
  | .nbx _ _ :: ps, d, n => .un :: startTm ps d.2 n
  | .cutp _ _ :: ps, d, n => .cut n (Int.toNat d.1.2) true :: startTm ps d.2 (n + 1)
def startOb : (ps : List PM) → Ds (ps.map PM.ty) → Nat → List Ob
  | [], _, _ => []
  | .val _ :: ps, d, n => startOb ps d.2 n
  | .own e t :: ps, d, n => .row e t d.1 :: startOb ps d.2 (n + 1)
  | .bx e fs :: ps, d, n => (.cells e (fsA fs d.1 (n + 1)) :: fsO fs d.1) ++ startOb ps d.2 (n + (1 + fsN fs))
  | .nbx _ _ :: ps, d, n => startOb ps d.2 n
  | .cutp e t :: ps, d, n => .row e t d.1.1 :: startOb ps d.2 (n + 1)
def start (ntmps : Nat) (ps : List PM) (d : Ds (ps.map PM.ty)) : St :=
  ⟨startTm ps d 0 ++ List.replicate (ntmps - ps.length) .und, startOb ps d 0⟩
def okRows : List Fd → List A → Nat → Bool
  | [], [], _ => true
  | .v _ :: fs, _ :: l, n => okRows fs l n
  | .r _ _ _ :: fs, .row j :: l, n => j == n && okRows fs l (n + 1)
  | _, _, _ => false
def finMuts (ob : List Ob) : (ps : List PM) → Nat → Option (Ds (muts ps))
  | [], _ => some ()
  | .val _ :: ps, n => finMuts ob ps n
  | .own e t :: ps, n => match atn .gone ob n with
    | .row e' u l => if h : u = t ∧ e' = e then (match finMuts ob ps (n + 1) with
      | some ys => some (T.cast (a := .list u) (b := .list t) (h.1 ▸ rfl) l, ys)
      | none => none) else none
    | _ => none
  | .bx e fs :: ps, n => match atn .gone ob n with
    | .cells e' l => if e' = e ∧ okRows fs l (n + 1) = true then (match readF false ob fs l, finMuts ob ps (n + (1 + fsN fs)) with
      | some y, some ys => some (y, ys)
      | _, _ => none) else none
    | _ => none
  | .nbx _ _ :: ps, n => finMuts ob ps n
  | .cutp e t :: ps, n => match atn .gone ob n with
    | .row e' u l => if h : u = t ∧ e' = e then (match finMuts ob ps (n + 1) with
      | some ys => some (T.cast (a := .list u) (b := .list t) (h.1 ▸ rfl) l, ys)
      | none => none) else none
    | _ => none
/-- May it stand in a struct that a pointer leads to for ever? -/
def A.strongB (ob : List Ob) : A → Bool
  | .v t _ => !t.weak
  | .row i => match atn .gone ob i with
    | .row _ t _ => !t.weak
    | _ => false
  | .cut i _ _ => match atn .gone ob i with
    | .row _ t _ => !t.weak
    | _ => false
  | _ => true
def A.toS (ob : List Ob) (u : T) (x : A) : Option u.den := if A.strongB ob x = true then A.toV ob u x else none
/-- A struct's value, its rows read for ever. -/
def gathR (ob : List Ob) (l : List A) : (t : T) → Nat → Option t.den
  | .pair a b, c => match gathR ob l a c, gathR ob l b (c + a.size) with
    | some x, some y => some (x, y)
    | _, _ => none
  | .int p, c => A.toS ob (.int p) (atn .un l c)
  | .bool, c => A.toS ob .bool (atn .un l c)
  | .flt, c => A.toS ob .flt (atn .un l c)
  | .list t, c => A.toS ob (.list t) (atn .un l c)
  | .obj n, c => A.toS ob (.obj n) (atn .un l c)
  | .ptr t, c => A.toS ob (.ptr t) (atn .un l c)
  | .one t, c => gathR ob l t c
/-- What is handed back to be read for ever: a value, or a pointer to a struct that nobody writes any more. -/
def outV (ob : List Ob) (u : T) (x : A) : Option u.den :=
  match u, x with
  | .ptr t, .box i 0 => match gathR ob (cellsOf ob i) t 0 with
    | some y => some (some y)
    | none => none
  | u, x => A.toV ob u x
def outRows (ob : List Ob) : List PM → List A → List Nat
  | .val _ :: ps, .row i :: xs => i :: outRows ob ps xs
  | .val _ :: ps, .cut i _ _ :: xs => i :: outRows ob ps xs
  | .val _ :: ps, .box i _ :: xs => i :: ((cellsOf ob i).flatMap A.rowOf ++ outRows ob ps xs)
  | _ :: ps, _ :: xs => outRows ob ps xs
  | _, _ => []
def finRes (ob : List Ob) : (rs : List PM) → List A → Option (Ds (rs.map PM.ty))
  | [], [] => some ()
  | .val t :: rs, x :: xs => match outV ob t x, finRes ob rs xs with
    | some y, some ys => some (y, ys)
    | _, _ => none
  | .own _ t :: rs, .nls :: xs => match finRes ob rs xs with
    | some ys => some (([] : List t.den), ys)
    | none => none
  | .own e t :: rs, .row i :: xs => match atn .gone ob i with
    | .row e' u l => if h : u = t ∧ e' = e then (match finRes ob rs xs with
      | some ys => some (T.cast (a := .list u) (b := .list t) (h.1 ▸ rfl) l, ys)
      | none => none) else none
    | _ => none
  | .cutp e t :: rs, .cut i n true :: xs => match atn .gone ob i with
    | .row e' u l => if h : u = t ∧ e' = e then (match finRes ob rs xs with
      | some ys => some ((T.cast (a := .list u) (b := .list t) (h.1 ▸ rfl) l, (n : Int)), ys)
      | none => none) else none
    | _ => none
  | .nbx _ fs :: rs, .nlp :: xs => match finRes ob rs xs with
    | some ys => some ((none : Option (fsT fs).den), ys)
    | none => none
  | .nbx e fs :: rs, .box i 0 :: xs => match atn .gone ob i with
    | .cells e' l => if e' = e then (match readF true ob fs l, finRes ob rs xs with
      | some y, some ys => some (some y, ys)
      | _, _ => none) else none
    | _ => none
  | _, _ => none
def ownRes (ob : List Ob) : List PM → List A → List Nat
  | .own _ _ :: ps, .row i :: xs => i :: ownRes ob ps xs
  | .cutp _ _ :: ps, .cut i _ _ :: xs => i :: ownRes ob ps xs
  | .nbx _ fs :: ps, .box i _ :: xs => i :: (rIdx fs (cellsOf ob i) ++ ownRes ob ps xs)
  | _ :: ps, _ :: xs => ownRes ob ps xs
  | _, _ => []
def cat : {a b : List T} → Ds a → Ds b → Ds (a ++ b)
  | [], _, _, y => y
  | _ :: _, _, x, y => (x.1, cat x.2 y)
def fin (own : Nat) (res : List Tmp) (ps rs : List PM) (st : St) : Option (Ds (muts ps ++ rs.map PM.ty)) :=
  match res.map (atn .un st.tm) with
  | xs => if nodupB (ownRes st.ob rs xs) && (ownRes st.ob rs xs).all (fun i => !(i < own) && !((outRows st.ob rs xs).contains i)) && (outRows st.ob rs xs).all (fun i => !(i < own)) then
      (match finMuts st.ob ps 0, finRes st.ob rs xs with
      | some a, some b => some (cat a b)
      | _, _ => none) else none
noncomputable def runF (E : Env) (ntmps : Nat) (body : Code) (res : List Tmp) (ps rs : List PM) (d : Ds (ps.map PM.ty)) : Option (Ds (muts ps ++ rs.map PM.ty)) :=
  exec E body (start ntmps ps d) (fun e st => match e with
    | .ex _ => none
    | .nm => if res.isEmpty then fin E.own res ps rs st else none
    | .rt => fin E.own res ps rs st)
/-- A loop's summary is what its rounds come to. -/
def LoopOk (E : Env) (x : Code) : Prop := ∀ st, (∀ (R : Type) (K : Ex → St → Option R), E.lp (firstRegion x) st K = none) ∨ ∃ m, ∀ (R : Type) (K : Ex → St → Option R), loopN (exec E x) (canon E.own (E.head (firstRegion x))) (fun e => canon E.own (E.tail (firstRegion x) e)) m st K = E.lp (firstRegion x) st K
def EdgeOk (E : Env) (o : Array Oper) (i : Nat) (st st1 : St) : Prop := ∃ h oi, o[i]? = some oi ∧ ∀ (R : Type) (k : St → Option R), opG E o.toList oi st (fun st' => canon E.own h st' k) = k st1
/-- From a state all orders of a drawn region come to the state fin; what has come up tells the state. -/
inductive Dag (E : Env) (o : Array Oper) (fin : St) : Array Bool → St → Prop
  | done {l : Array Bool} : Region.ready .any o l = [] → Dag E o fin l fin
  | pure {l : Array Bool} {st : St} (i : Nat) (st1 : St) : (match o[i]? with | some oi => isPure oi.op && oi.guard.isNone && Region.free .any o l i && (Region.ready .any o l).contains i | none => false) = true →
      EdgeOk E o i st st1 → Dag E o fin (l.setIfInBounds i true) st1 → Dag E o fin l st
  | all {l : Array Bool} {st : St} (st1 : Nat → St) : Region.ready .any o l ≠ [] → (∀ i ∈ Region.ready .any o l, EdgeOk E o i st (st1 i)) → (∀ i ∈ Region.ready .any o l, Dag E o fin (l.setIfInBounds i true) (st1 i)) → Dag E o fin l st
/-- A region's summary is what every order of it comes to. -/
def RegOk (E : Env) (id : Nat) (o : Array Oper) : Prop := E.rg id = false ∨ ∀ (R : Type) (st : St) (K : Ex → St → Option R) (r : R), E.lp (1000000 + id) st K = some r → ∃ fin, K .nm fin = some r ∧ Dag E o fin (Array.replicate o.size false) st
def LoopsOk (E : Env) : Code → Prop
  | .region id o _ => RegOk E id o
  | .seq a b => LoopsOk E a ∧ LoopsOk E b
  | .cond _ a b => LoopsOk E a ∧ LoopsOk E b
  | .block _ a => LoopsOk E a
  | .loop a => LoopOk E a ∧ LoopsOk E a
  | _ => True
end Go.Proofs.YthbojpaghbbnnaaDoor.Z
namespace Go.Proofs.YthbojpaghbbnnaaDoor.Z
open Go Go.RowKit
set_option linter.unusedVariables false
set_option linter.unusedSimpArgs false
/-- Nothing that was there has turned, but for the blocks of U. -/
structure Ag (U : Nat → Prop) (w w' : World) : Prop where
  os : w'.os = w.os
  tape : w'.tape = w.tape
  output : w'.output = w.output
  size : w.heap.size ≤ w'.heap.size
  block : ∀ b, b < w.heap.size → ¬ U b → w'.heap[b]? = w.heap[b]?
theorem Ag.refl (U : Nat → Prop) (w : World) : Ag U w w := ⟨rfl, rfl, rfl, Nat.le_refl _, fun _ _ _ => rfl⟩
theorem Ag.trans {U : Nat → Prop} {a b c : World} (h : Ag U a b) (k : Ag U b c) : Ag U a c :=
  ⟨k.os.trans h.os, k.tape.trans h.tape, k.output.trans h.output, Nat.le_trans h.size k.size, fun i hi hu => (k.block i (Nat.lt_of_lt_of_le hi h.size) hu).trans (h.block i hi hu)⟩
theorem Ag.mono {U V : Nat → Prop} {w w' : World} (h : Ag U w w') (hv : ∀ b, b < w.heap.size → U b → V b) : Ag V w w' := ⟨h.os, h.tape, h.output, h.size, fun b hb hn => h.block b hb (fun hu => hn (hv b hb hu))⟩
theorem Ag.of_below {w w' : World} (h : Below w.heap.size w w') (U : Nat → Prop) : Ag U w w' := ⟨h.os, h.tape, h.output, h.size, fun b hb _ => h.block b hb⟩
theorem Ag.below {U : Nat → Prop} {w w' : World} (h : Ag U w w') (hU : ∀ b, b < w.heap.size → ¬ U b) : Below w.heap.size w w' := ⟨h.os, h.tape, h.output, h.size, fun b hb => h.block b hb (hU b hb)⟩
theorem Ag.of_grown {w w' : World} {row : Option Nat} (h : w.grownBy w' row) {U : Nat → Prop} (hU : ∀ b, row = some b → U b) : Ag U w w' := ⟨h.os, h.tape, h.output, h.size, fun b hb hn => h.block b hb (fun e => hn (hU b e.symm))⟩
theorem Ag.drew (U : Nat → Prop) (w : World) : Ag U w w.drew := ⟨rfl, rfl, rfl, Nat.le_refl _, fun _ _ _ => rfl⟩
/-- One set of blocks or another. -/
def Orp (U V : Nat → Prop) : Nat → Prop := fun b => U b ∨ V b
/-- What holds whenever memory stays as w has it, but for U, holds whenever it stays as w' has it, but for U'. -/
structure Tr (U : Nat → Prop) (w : World) (U' : Nat → Prop) (w' : World) : Prop where
  ag : ∀ w'', Ag U' w' w'' → Ag U w w''
  st : ∀ (V : Nat → Prop) w'', Ag (Orp U' V) w' w'' → Ag (Orp U V) w w''
instance {U U' : Nat → Prop} {w w' : World} : CoeFun (Tr U w U' w') (fun _ => ∀ w'', Ag U' w' w'' → Ag U w w'') := ⟨Tr.ag⟩
theorem Tr.refl (U : Nat → Prop) (w : World) : Tr U w U w := ⟨fun _ h => h, fun _ _ h => h⟩
theorem Ag.back {U V U' : Nat → Prop} {w w' : World} (h : Ag V w w') (hV : ∀ b, b < w.heap.size → V b → U b) (hU : ∀ b, b < w.heap.size → U' b → U b) : ∀ w'', Ag U' w' w'' → Ag U w w'' := fun w'' k =>
  ⟨k.os.trans h.os, k.tape.trans h.tape, k.output.trans h.output, Nat.le_trans h.size k.size, fun b hb hn => (k.block b (Nat.lt_of_lt_of_le hb h.size) (fun hu => hn (hU b hb hu))).trans (h.block b hb (fun hv => hn (hV b hb hv)))⟩
theorem Tr.of {U V U' : Nat → Prop} {w w' : World} (h : Ag V w w') (hV : ∀ b, b < w.heap.size → V b → U b) (hU : ∀ b, b < w.heap.size → U' b → U b) : Tr U w U' w' :=
  ⟨h.back hV hU, fun V' => h.back (fun b hb hv => .inl (hV b hb hv)) (fun b hb hu => hu.imp (hU b hb) id)⟩
theorem Tr.or {U U' : Nat → Prop} {w w' : World} (k : Tr U w U' w') (V : Nat → Prop) : Tr (Orp U V) w (Orp U' V) w' := ⟨k.st V, fun V' w'' h => by
  have e : ∀ X : Nat → Prop, Orp (Orp X V) V' = Orp X (Orp V V') := fun X => funext fun b => propext ⟨fun h => h.elim (fun h => h.imp id .inl) (fun h => .inr (.inr h)), fun h => h.elim (fun h => .inl (.inl h)) (fun h => h.elim (fun h => .inl (.inr h)) .inr)⟩
  rw [e] at h ⊢
  exact k.st _ w'' h⟩
theorem Tr.trans {U U' U'' : Nat → Prop} {a b c : World} (h : Tr U a U' b) (k : Tr U' b U'' c) : Tr U a U'' c := ⟨fun w hw => h.ag w (k.ag w hw), fun V w hw => h.st V w (k.st V w hw)⟩
theorem Tr.less {U V : Nat → Prop} {w : World} : Tr (Orp U V) w U w := Tr.of (V := fun _ => False) (Ag.refl _ _) (fun _ _ h => h.elim) (fun _ _ h => .inl h)
def Els {α : Type} (Q : List Value → α → Prop) : List Value → List α → Prop
  | cs, [] => cs = []
  | cs, x :: xs => ∃ c r, cs = c ++ r ∧ Q c x ∧ Els Q r xs
theorem Els.mono {α : Type} {Q Q' : List Value → α → Prop} (h : ∀ c x, Q c x → Q' c x) : ∀ {cs : List Value} {xs : List α}, Els Q cs xs → Els Q' cs xs
  | _, [], e => e
  | _, _ :: _, ⟨c, r, e, hq, hr⟩ => ⟨c, r, e, h _ _ hq, Els.mono h hr⟩
theorem Els.length {α : Type} {Q : List Value → α → Prop} {sz : Nat} (hz : ∀ c x, Q c x → c.length = sz) : ∀ {cs : List Value} {xs : List α}, Els Q cs xs → cs.length = xs.length * sz
  | _, [], e => by cases e; simp
  | _, x :: xs, ⟨c, r, e, hq, hr⟩ => by rw [e, List.length_append, hz _ _ hq, Els.length hz hr, List.length_cons, Nat.succ_mul]; omega
theorem Els.append {α : Type} {Q : List Value → α → Prop} : ∀ {cs ds : List Value} {xs ys : List α}, Els Q cs xs → Els Q ds ys → Els Q (cs ++ ds) (xs ++ ys)
  | _, _, [], _, e, k => by cases e; simpa using k
  | _, _, _ :: _, _, ⟨c, r, e, hq, hr⟩, k => ⟨c, _, by rw [e, List.append_assoc], hq, hr.append k⟩
theorem Els.get {α : Type} {Q : List Value → α → Prop} {sz : Nat} (hz : ∀ c x, Q c x → c.length = sz) : ∀ {cs : List Value} {xs : List α}, Els Q cs xs → ∀ i (hi : i < xs.length),
    Q ((cs.drop (i * sz)).take sz) xs[i]
  | _, [], _, i, hi => absurd hi (by simp)
  | _, x :: xs, ⟨c, r, e, hq, hr⟩, 0, _ => by
    have := hz _ _ hq
    rw [e, Nat.zero_mul, List.drop_zero, ← this, List.take_left']
    · exact hq
    · rfl
  | _, x :: xs, ⟨c, r, e, hq, hr⟩, i + 1, hi => by
    have h1 := hz _ _ hq
    rw [e, Nat.succ_mul, Nat.add_comm, ← List.drop_drop, show sz = c.length from h1.symm, List.drop_left', ← h1.symm]
    · exact Els.get hz hr i (by simpa using hi)
    · rfl
theorem Els.take {α : Type} {Q : List Value → α → Prop} {sz : Nat} (hz : ∀ c x, Q c x → c.length = sz) : ∀ {cs : List Value} {xs : List α}, Els Q cs xs → ∀ n, Els Q (cs.take (n * sz)) (xs.take n)
  | _, [], e, n => by cases e; simp [Els]
  | _, x :: xs, _, 0 => by simp [Els]
  | _, x :: xs, ⟨c, r, e, hq, hr⟩, n + 1 => by
    have h1 := hz _ _ hq
    refine ⟨c, r.take (n * sz), ?_, hq, Els.take hz hr n⟩
    rw [e, List.take_append, List.take_of_length_le (by rw [h1, Nat.succ_mul]; omega), h1, Nat.succ_mul, Nat.add_sub_cancel]
theorem Els.drop {α : Type} {Q : List Value → α → Prop} {sz : Nat} (hz : ∀ c x, Q c x → c.length = sz) : ∀ {cs : List Value} {xs : List α}, Els Q cs xs → ∀ n, Els Q (cs.drop (n * sz)) (xs.drop n)
  | _, [], e, n => by cases e; simp [Els]
  | cs, x :: xs, h, 0 => by simpa using h
  | _, x :: xs, ⟨c, r, e, hq, hr⟩, n + 1 => by
    have h1 := hz _ _ hq
    rw [e, Nat.succ_mul, Nat.add_comm, ← List.drop_drop, show sz = c.length from h1.symm, List.drop_left' rfl, ← h1.symm]
    exact Els.drop hz hr n
theorem Els.set {α : Type} {Q : List Value → α → Prop} {sz : Nat} (hz : ∀ c x, Q c x → c.length = sz) {d : List Value} {y : α} (hd : Q d y) : ∀ {cs : List Value} {xs : List α}, Els Q cs xs → ∀ i, i < xs.length →
    Els Q (cs.take (i * sz) ++ d ++ cs.drop (i * sz + sz)) (xs.set i y)
  | _, [], _, i, hi => absurd hi (by simp)
  | _, x :: xs, ⟨c, r, e, hq, hr⟩, 0, _ => by
    have h1 := hz _ _ hq
    refine ⟨d, r, ?_, hd, hr⟩
    rw [e, Nat.zero_mul, List.take_zero, List.nil_append, Nat.zero_add, ← h1, List.drop_left' rfl]
  | _, x :: xs, ⟨c, r, e, hq, hr⟩, i + 1, hi => by
    have h1 := hz _ _ hq
    refine ⟨c, _, ?_, hq, Els.set hz hd hr i (by simpa using hi)⟩
    rw [e, List.take_append, List.take_of_length_le (by rw [h1, Nat.succ_mul]; omega), h1, Nat.succ_mul, Nat.add_sub_cancel, show i * sz + sz + sz = c.length + (i * sz + sz) by omega, ← List.drop_drop, List.drop_left' rfl]
    simp only [List.append_assoc]
theorem Els.replicate {α : Type} {Q : List Value → α → Prop} {c : List Value} {x : α} (h : Q c x) : ∀ n, Els Q (List.replicate n c).flatten (List.replicate n x)
  | 0 => rfl
  | n + 1 => ⟨c, _, by rw [List.replicate_succ, List.flatten_cons], h, Els.replicate h n⟩
section
/-- What the pointers that stand for objects say of memory. -/
structure Obs where
  rel : (n : Nat) → World → Value → OT n → Prop
  V : Nat → Prop
instance : CoeFun Obs (fun _ => (n : Nat) → World → Value → OT n → Prop) := ⟨Obs.rel⟩
/-- The same; what pointers lead to stays though blocks of V turn. -/
def Obs.on (ρ : Obs) (V : Nat → Prop) : Obs := ⟨ρ.rel, V⟩
variable (ρ : Obs)
/-- The cells of a value, which stay so as long as memory stays, but for U. -/
def ICs (U : Nat → Prop) (w : World) : (t : T) → List Value → t.den → Prop
  | .int k, cs, x => cs = [.int k x]
  | .bool, cs, x => cs = [.bool x]
  | .flt, cs, x => cs = [.float .f64 x]
  | .list t, cs, xs => ∃ A c ds, cs = [.slice A (List.length xs) c] ∧ List.length xs ≤ maxLen ∧ List.length xs ≤ c ∧ Els (ICs U w t) ds xs ∧
      (0 < List.length xs → ∃ b off, A = some ⟨b, off, none⟩ ∧ ∀ w', Ag U w w' → ∀ j, j < ds.length → w'.cell? ⟨b, off + j, none⟩ = ds[j]?)
  | .pair a b, cs, x => ∃ c d, cs = c ++ d ∧ ICs U w a c x.1 ∧ ICs U w b d x.2
  | .obj n, cs, x => ∃ v, cs = [v] ∧ match x with
    | none => v = .pointer none
    | some y => (∃ a, v = .pointer (some a)) ∧ ∀ w', Ag U w w' → ρ n w' v y
  | .one t, cs, x => ICs U w t cs x
  | .ptr t, cs, x => ∃ v, cs = [v] ∧ match x with
    | none => v = .pointer none
    | some y => ∃ b off ds, v = .pointer (some ⟨b, off, none⟩) ∧ ICs (Orp U ρ.V) w t ds y ∧ ∀ w', Ag (Orp U ρ.V) w w' → ∀ j, j < t.size → w'.cell? ⟨b, off + j, none⟩ = ds[j]?
variable {ρ}
theorem ICs.length {U : Nat → Prop} {w : World} : ∀ {t : T} {cs : List Value} {x : t.den}, ICs ρ U w t cs x → cs.length = t.size
  | .int _, _, _, h => by cases h; rfl
  | .bool, _, _, h => by cases h; rfl
  | .flt, _, _, h => by cases h; rfl
  | .list _, _, _, ⟨_, _, _, h, _⟩ => by cases h; rfl
  | .pair a b, _, _, ⟨c, d, h, h1, h2⟩ => by rw [h, List.length_append, ICs.length h1, ICs.length h2]; rfl
  | .obj _, _, _, ⟨_, h, _⟩ => by cases h; rfl
  | .ptr _, _, _, ⟨_, h, _⟩ => by cases h; rfl
  | .one t, cs, x, h => ICs.length (t := t) (cs := cs) (x := x) h
theorem ICs.tr {U U' : Nat → Prop} {w w' : World} (k : Tr U w U' w') : ∀ {t : T} {cs : List Value} {x : t.den}, ICs ρ U w t cs x → ICs ρ U' w' t cs x
  | .int _, _, _, h => h
  | .bool, _, _, h => h
  | .flt, _, _, h => h
  | .list _, _, _, ⟨A, c, ds, h, h1, hc, h2, h3⟩ => ⟨A, c, ds, h, h1, hc, h2.mono (fun _ _ q => ICs.tr k q), fun hp => by
    obtain ⟨b, off, e, h4⟩ := h3 hp
    exact ⟨b, off, e, fun w'' hw => h4 w'' (k w'' hw)⟩⟩
  | .pair a b, _, _, ⟨c, d, h, h1, h2⟩ => ⟨c, d, h, ICs.tr k h1, ICs.tr k h2⟩
  | .obj _, _, none, ⟨v, h, h1⟩ => ⟨v, h, h1⟩
  | .obj _, _, some y, ⟨v, h, h1, h2⟩ => ⟨v, h, h1, fun w'' hw => h2 w'' (k w'' hw)⟩
  | .one t, cs, x, h => ICs.tr k (t := t) (cs := cs) (x := x) h
  | .ptr _, _, none, ⟨v, h, h1⟩ => ⟨v, h, h1⟩
  | .ptr _, _, some y, ⟨v, h, b, off, ds, h1, h2, h3⟩ => ⟨v, h, b, off, ds, h1, ICs.tr (k.or _) h2, fun w'' hw => h3 w'' ((k.or _).ag w'' hw)⟩
/-- The same value, seen by another: other blocks may turn. -/
theorem ICs.to {ρ ρ' : Obs} (er : ρ'.rel = ρ.rel) : ∀ {t : T} {U U' : Nat → Prop} {w w' : World} {cs : List Value} {x : t.den}, ((∀ w'', Ag U' w' w'' → Ag U w w'') ∨ t.weak = false) → (∀ w'', Ag (Orp U' ρ'.V) w' w'' → Ag (Orp U ρ.V) w w'') → ICs ρ U w t cs x → ICs ρ' U' w' t cs x
  | .int _, _, _, _, _, _, _, _, _, h => h
  | .bool, _, _, _, _, _, _, _, _, h => h
  | .flt, _, _, _, _, _, _, _, _, h => h
  | .list t, _, _, _, _, _, _, k, ks, ⟨A, c, ds, h, h1, hc, h2, h3⟩ => by
    have k := k.resolve_right (fun h => by simp [T.weak] at h)
    exact ⟨A, c, ds, h, h1, hc, h2.mono (fun _ _ q => ICs.to er (.inl k) ks q), fun hp => by
      obtain ⟨b, off, e, h4⟩ := h3 hp
      exact ⟨b, off, e, fun w'' hw => h4 w'' (k w'' hw)⟩⟩
  | .pair a b, _, _, _, _, _, _, k, ks, ⟨c, d, h, h1, h2⟩ => ⟨c, d, h, ICs.to er (k.imp id (fun h => by simp only [T.weak, Bool.or_eq_false_iff] at h; exact h.1)) ks h1, ICs.to er (k.imp id (fun h => by simp only [T.weak, Bool.or_eq_false_iff] at h; exact h.2)) ks h2⟩
  | .obj _, _, _, _, _, _, none, _, _, ⟨v, h, h1⟩ => ⟨v, h, h1⟩
  | .obj _, _, _, _, _, _, some y, k, _, ⟨v, h, h1, h2⟩ => ⟨v, h, h1, fun w'' hw => by
    rw [er]
    exact h2 w'' (k.resolve_right (fun h => by simp [T.weak] at h) w'' hw)⟩
  | .one t, _, _, _, _, cs, x, k, ks, h => ICs.to er (t := t) (cs := cs) (x := x) k ks h
  | .ptr _, _, _, _, _, _, none, _, _, ⟨v, h, h1⟩ => ⟨v, h, h1⟩
  | .ptr _, U, U', w, w', _, some y, _, ks, ⟨v, h, b, off, ds, h1, h2, h3⟩ => by
    have ks' : ∀ w'', Ag (Orp (Orp U' ρ'.V) ρ'.V) w' w'' → Ag (Orp (Orp U ρ.V) ρ.V) w w'' := fun w'' q => (ks w'' (q.mono (fun _ _ h => h.elim id .inr))).mono (fun _ _ h => .inl h)
    exact ⟨v, h, b, off, ds, h1, ICs.to er (.inl ks) ks' h2, fun w'' hw => h3 w'' (ks w'' hw)⟩
/-- No pointer to a struct in it. -/
def T.noptr : T → Bool
  | .list t => t.noptr
  | .pair a b => a.noptr && b.noptr
  | .ptr _ => false
  | .one t => t.noptr
  | _ => true
theorem ICs.np {ρ ρ' : Obs} (er : ρ'.rel = ρ.rel) {U : Nat → Prop} {w : World} : ∀ {t : T} {cs : List Value} {x : t.den}, t.noptr = true → ICs ρ U w t cs x → ICs ρ' U w t cs x
  | .int _, _, _, _, h => h
  | .bool, _, _, _, h => h
  | .flt, _, _, _, h => h
  | .list t, _, _, hn, ⟨A, c, ds, h, h1, hc, h2, h3⟩ => ⟨A, c, ds, h, h1, hc, h2.mono (fun _ _ q => ICs.np er (show t.noptr = true from hn) q), h3⟩
  | .pair a b, _, _, hn, ⟨c, d, h, h1, h2⟩ => by
    simp only [T.noptr, Bool.and_eq_true] at hn
    exact ⟨c, d, h, ICs.np er hn.1 h1, ICs.np er hn.2 h2⟩
  | .obj _, _, none, _, ⟨v, h, h1⟩ => ⟨v, h, h1⟩
  | .obj _, _, some y, _, ⟨v, h, h1, h2⟩ => ⟨v, h, h1, fun w'' hw => by rw [er]; exact h2 w'' hw⟩
  | .one t, cs, x, hn, h => ICs.np er (t := t) (cs := cs) (x := x) hn h
  | .ptr _, _, _, hn, _ => by simp [T.noptr] at hn
/-- What may turn, seen from elsewhere; weak: does it matter what lists lead to? -/
structure Tk (V : Nat → Prop) (U : Nat → Prop) (w : World) (U' : Nat → Prop) (w' : World) (weak : Bool) : Prop where
  k : (∀ w'', Ag U' w' w'' → Ag U w w'') ∨ weak = false
  ks : ∀ w'', Ag (Orp U' V) w' w'' → Ag (Orp U V) w w''
theorem Tk.of {V U U' : Nat → Prop} {w w' : World} {b : Bool} (h : Tr U w U' w') : Tk V U w U' w' b := ⟨.inl h.ag, h.st V⟩
theorem Tk.part {V U U' : Nat → Prop} {w w' : World} {b c : Bool} (h : Tk V U w U' w' b) (e : b = false → c = false) : Tk V U w U' w' c := ⟨h.k.imp id e, h.ks⟩
theorem ICs.tk {ρ : Obs} {t : T} {U U' : Nat → Prop} {w w' : World} {cs : List Value} {x : t.den} (k : Tk ρ.V U w U' w' t.weak) (h : ICs ρ U w t cs x) : ICs ρ U' w' t cs x := ICs.to rfl k.k k.ks h
/-- A value of these cells. -/
def pack (t : T) (cs : List Value) : Value :=
  match t with
  | .pair _ _ => .agg cs.toArray
  | .one _ => .agg cs.toArray
  | _ => cs.headD undef
theorem pack_agg {t : T} (h : t.isPair = true) (cs : List Value) : pack t cs = .agg cs.toArray := by
  cases t <;> simp [T.isPair] at h <;> rfl
def IRd (ρ : Obs) (U : Nat → Prop) (w : World) (t : T) (v : Value) (x : t.den) : Prop := ∃ cs, v = pack t cs ∧ ICs ρ U w t cs x
theorem IRd.to {ρ ρ' : Obs} (er : ρ'.rel = ρ.rel) {U U' : Nat → Prop} {w w' : World} {t : T} {v : Value} {x : t.den} (h : IRd ρ U w t v x) (k : (∀ w'', Ag U' w' w'' → Ag U w w'') ∨ t.weak = false) (ks : ∀ w'', Ag (Orp U' ρ'.V) w' w'' → Ag (Orp U ρ.V) w w'') : IRd ρ' U' w' t v x := by
  obtain ⟨cs, e, h⟩ := h
  exact ⟨cs, e, ICs.to er k ks h⟩
theorem IRd.np {ρ ρ' : Obs} (er : ρ'.rel = ρ.rel) {U : Nat → Prop} {w : World} {t : T} {v : Value} {x : t.den} (hn : t.noptr = true) (h : IRd ρ U w t v x) : IRd ρ' U w t v x := by
  obtain ⟨cs, e, h⟩ := h
  exact ⟨cs, e, ICs.np er hn h⟩
theorem IRd.tr {U U' : Nat → Prop} {w w' : World} {t : T} {v : Value} {x : t.den} (h : IRd ρ U w t v x) (k : Tr U w U' w') : IRd ρ U' w' t v x := by
  obtain ⟨cs, e, h⟩ := h
  exact ⟨cs, e, ICs.tr k h⟩
end
end Go.Proofs.YthbojpaghbbnnaaDoor.Z
namespace Go.Proofs.YthbojpaghbbnnaaDoor.Z
open Go Go.RowKit
set_option linter.unusedVariables false
set_option linter.unusedSimpArgs false
section
variable {P : Program} {ops : Array Oper} {Q : Exit → Act → World → Prop} {md : Region.Mode} {D : Nat → Bool}

/-- Whatever comes up from here on; behind every operation but those of D old memory is as it was. -/
def wpAnyR (P : Program) (md : Region.Mode) (ops : Array Oper) (Q : Exit → Act → World → Prop) (D : Nat → Bool) : Nat → Array Bool → Act → World → Prop
  | 0, l, a, w => Region.ready md ops l = [] ∧ Q .normal a w
  | f + 1, l, a, w => (Region.ready md ops l = [] → Q .normal a w) ∧
    ∀ i ∈ Region.ready md ops l, wpOp P ops Q i (fun a' w' => (D i = false → Ag (fun _ => False) w w') ∧ wpAnyR P md ops Q D f (l.setIfInBounds i true) a' w') a w
theorem any_of_R : ∀ (f : Nat) (l : Array Bool) (a : Act) (w : World), wpAnyR P md ops Q D f l a w → wpAny P md ops Q f l a w
  | 0, _, _, _, h => h
  | f + 1, _, _, _, h => ⟨h.1, fun i hi => wpOp_mono (fun a' w' k => any_of_R f _ a' w' k.2) (h.2 i hi)⟩
/-- Every operation that has come up came up behind all that it waits for. -/
def Shutd (md : Region.Mode) (ops : Array Oper) (l : Array Bool) : Prop := ∀ k o, ops[k]? = some o → l.getD k true = true → ∀ e ∈ o.after, Region.binds md e = true → l.getD e.on false = true
def waitsOn (md : Region.Mode) (ops : Array Oper) : Nat → Nat → Nat → Bool
  | 0, _, _ => false
  | f + 1, j, i => match ops[j]? with
    | some o => o.after.any fun e => Region.binds md e && (e.on == i || waitsOn md ops f e.on i)
    | none => false
theorem getD_size {l : Array Bool} {i : Nat} (h : l.getD i true = false) : i < l.size := by
  rcases Nat.lt_or_ge i l.size with h1 | h1
  · exact h1
  · simp [Array.getD, Nat.not_lt.2 h1] at h
theorem listed_waits {l : Array Bool} (hs : Shutd md ops l) {i : Nat} (hi : l.getD i true = false) : ∀ (f j : Nat), waitsOn md ops f j i = true → l.getD j false = true → False
  | 0, _, h, _ => by simp [waitsOn] at h
  | f + 1, j, h, hj => by
    unfold waitsOn at h
    cases ho : ops[j]? with
    | none => simp [ho] at h
    | some o =>
      simp only [ho] at h
      obtain ⟨e, he, hb⟩ := Array.any_eq_true'.1 h
      simp only [Bool.and_eq_true, Bool.or_eq_true, beq_iff_eq] at hb
      have hlt : j < l.size := by
        rcases Nat.lt_or_ge j l.size with h1 | h1
        · exact h1
        · simp [Array.getD, Nat.not_lt.2 h1] at hj
      have hj' : l.getD j true = true := by simpa [Array.getD, hlt] using hj
      have h2 := hs j o ho hj' e he hb.1
      rcases hb.2 with h3 | h3
      · rw [h3] at h2
        have := getD_size hi
        simp [Array.getD, this] at hi h2
        rw [hi] at h2
        cases h2
      · exact listed_waits hs hi f e.on h3 h2
theorem not_ready_of_waits {l : Array Bool} (hs : Shutd md ops l) {i : Nat} (hi : l.getD i true = false) {f j : Nat} (h : waitsOn md ops f j i = true) : j ∉ Region.ready md ops l := by
  intro hr
  obtain ⟨_, o, ho, hall⟩ := mem_ready.1 hr
  cases f with
  | zero => simp [waitsOn] at h
  | succ f =>
    unfold waitsOn at h
    simp only [ho] at h
    obtain ⟨e, he, hb⟩ := Array.any_eq_true'.1 h
    simp only [Bool.and_eq_true, Bool.or_eq_true, beq_iff_eq] at hb
    have h2 := hall e he hb.1
    rcases hb.2 with h3 | h3
    · rw [h3] at h2
      have := getD_size hi
      simp [Array.getD, this] at hi h2
      rw [hi] at h2
      cases h2
    · exact listed_waits hs hi f e.on h3 h2
theorem getD_set_true (l : Array Bool) (j k : Nat) (d : Bool) (h : l.getD k d = true) : (l.setIfInBounds j true).getD k d = true := by
  rcases Nat.lt_or_ge k l.size with h1 | h1
  · by_cases e : j = k
    · subst e; simp [Array.getD, h1]
    · simp [Array.getD, h1] at h
      simp [Array.getD, h1, Array.getElem_setIfInBounds, e, h]
  · simp [Array.getD, Nat.not_lt.2 h1] at h ⊢
    exact h
theorem Shutd.list {l : Array Bool} (hs : Shutd md ops l) {j : Nat} (hj : j ∈ Region.ready md ops l) : Shutd md ops (l.setIfInBounds j true) := by
  intro k o ho hk e he hb
  obtain ⟨_, oj, hoj, hall⟩ := mem_ready.1 hj
  by_cases hkj : k = j
  · subst hkj
    rw [ho] at hoj
    cases hoj
    exact getD_set_true _ _ _ _ (hall e he hb)
  · rw [getD_set_ne true (Ne.symm hkj)] at hk
    exact getD_set_true _ _ _ _ (hs k o ho hk e he hb)
/-- In every world that keeps what w has, o yields v in state a. -/
def From (P : Program) (ops : Array Oper) (o : Oper) (v : Value) (a : Act) (w : World) : Prop := YieldsIf P ops (fun w' => Ag (fun _ => False) w w') o v a
theorem From.later {o : Oper} {v : Value} {a : Act} {w w1 : World} (h : From P ops o v a w) (k : Ag (fun _ => False) w w1) : From P ops o v a w1 :=
  h.imp (fun ⟨h1, h2⟩ => ⟨h1, fun w' hw' => h2 w' (k.trans (hw'.mono (fun _ _ h => h)))⟩) id
theorem Ag.trans0 {a b c : World} (h : Ag (fun _ => False) a b) (k : Ag (fun _ => False) b c) : Ag (fun _ => False) a c := h.trans k
theorem firstR {i : Nat} {oi : Oper} {v : Value} {c : Nat} (hi : ops[i]? = some oi) (hsel : ∀ (j : Nat) (o : Oper) cs b, ops[j]? = some o → o.op ≠ .select cs b)
    (hQ : ∀ c a w, Q (.panic c) (a.put oi.dst v) w → Q (.panic c) a w) :
    ∀ (f : Nat) (l : Array Bool) (a : Act) (w : World),
      (∀ j oj, ops[j]? = some oj → j ≠ i → l.getD j true = false → (∀ e ∈ oj.after, Region.binds md e = true → e.on ≠ i) → oi.apart ops oj = true) →
      i ∈ Region.ready md ops l → Shutd md ops l → ((∀ w', (Region.wanted oi (yielded ops a.tmps) = true → (execOp a.eval oi).run P w' = .ok (.value v) w') ∧ (Region.wanted oi (yielded ops a.tmps) = false → v = undef)) ∨ (From P ops oi v a w ∧ ∀ j oj, ops[j]? = some oj → D j = true → l.getD j true = false → waitsOn md ops c j i = true)) →
      wpAnyR P md ops Q D f (l.setIfInBounds i true) (a.put oi.dst v) w → wpAnyR P md ops Q D (f + 1) l a w := by
  intro f
  induction f with
  | zero =>
    intro l a w _ hr _ hy H
    have hy' : YieldsIf P ops (fun w' => w' = w) oi v a := by
      rcases hy with hy | ⟨hy, _⟩
      · cases hw : Region.wanted oi (yielded ops a.tmps)
        · exact .inr ⟨hw, (hy w).2 hw⟩
        · exact .inl ⟨hw, fun w' _ => (hy w').1 hw⟩
      · exact hy.imp (fun ⟨h1, h2⟩ => ⟨h1, fun w' e => h2 w' (e ▸ Ag.refl _ _)⟩) id
    refine ⟨fun h => (by rw [h] at hr; cases hr), fun j hj => ?_⟩
    by_cases hji : j = i
    · subst hji; exact hy'.wpOp hi rfl ⟨fun _ => Ag.refl _ _, H⟩
    · have := ready_mono hj hji
      rw [H.1] at this
      cases this
  | succ f ih =>
    intro l a w hfree hr hs hy H
    have hy' : YieldsIf P ops (fun w' => w' = w) oi v a := by
      rcases hy with hy | ⟨hy, _⟩
      · cases hw : Region.wanted oi (yielded ops a.tmps)
        · exact .inr ⟨hw, (hy w).2 hw⟩
        · exact .inl ⟨hw, fun w' _ => (hy w').1 hw⟩
      · exact hy.imp (fun ⟨h1, h2⟩ => ⟨h1, fun w' e => h2 w' (e ▸ Ag.refl _ _)⟩) id
    refine ⟨fun h => (by rw [h] at hr; cases hr), fun j hj => ?_⟩
    by_cases hji : j = i
    · subst hji; exact hy'.wpOp hi rfl ⟨fun _ => Ag.refl _ _, H⟩
    · have h1 := H.2 j (ready_mono hj hji)
      obtain ⟨hjun, oj, hoj, hall⟩ := mem_ready.1 hj
      have hiun := (mem_ready.1 hr).1
      have hnot : ∀ e ∈ oj.after, Region.binds md e = true → e.on ≠ i := fun e he hb heq => by
        have h1 := hall e he hb
        rw [heq] at h1
        rcases Nat.lt_or_ge i l.size with h' | h'
        · simp [h'] at hiun h1; rw [hiun] at h1; cases h1
        · simp [Array.getElem?_eq_none h'] at h1
      have hclosed := hs.list hj
      have hapart := hfree j oj hoj hji hjun hnot
      have hfree' : ∀ k ok, ops[k]? = some ok → k ≠ i → (l.setIfInBounds j true).getD k true = false →
          (∀ e ∈ ok.after, Region.binds md e = true → e.on ≠ i) → oi.apart ops ok = true := fun k ok hk hki hun hno => by
        refine hfree k ok hk hki ?_ hno
        by_cases hjk : j = k
        · subst hjk; exact hjun
        · rw [getD_set_ne true hjk] at hun; exact hun
      rcases hy with hy | ⟨hy, hD⟩
      · have hyT : YieldsIf P ops (fun _ => True) oi v a := by
          cases hw : Region.wanted oi (yielded ops a.tmps)
          · exact .inr ⟨hw, (hy w).2 hw⟩
          · exact .inl ⟨hw, fun w' _ => (hy w').1 hw⟩
        have h2 := wpOp_putIf hoj hapart (fun cs b => hsel i oi cs b hi) (fun cs b => hsel j oj cs b hoj) hQ hyT h1
        refine wpOp_mono (fun a' w' h3 => ⟨h3.2.1, ih (l.setIfInBounds j true) a' w' hfree' (ready_mono hr (Ne.symm hji)) hclosed (.inl fun w1 => ?_) ?_⟩) h2
        · rcases h3.1 with ⟨q1, q2⟩ | ⟨q1, q2⟩
          · exact ⟨fun _ => q2 w1 trivial, fun h => by rw [q1] at h; cases h⟩
          · exact ⟨fun h => (by rw [q1] at h; cases h), fun _ => q2⟩
        · rw [Array.setIfInBounds_comm _ _ hji]
          exact h3.2.2
      · have hDj : D j = false := by
          cases hd : D j with
          | false => rfl
          | true => exact absurd hj (not_ready_of_waits hs (by
              rcases Nat.lt_or_ge i l.size with h' | h'
              · simp [h'] at hiun; simp [Array.getD, h', hiun]
              · simp [Array.getElem?_eq_none h'] at hiun) (hD j oj hoj hd (by
                rcases Nat.lt_or_ge j l.size with h' | h'
                · simp [h'] at hjun; simp [Array.getD, h', hjun]
                · simp [Array.getElem?_eq_none h'] at hjun)))
        have h2 := wpOp_putIf hoj hapart (fun cs b => hsel i oi cs b hi) (fun cs b => hsel j oj cs b hoj) hQ hy h1
        refine wpOp_mono (fun a' w' h3 => ⟨h3.2.1, ih (l.setIfInBounds j true) a' w' hfree' (ready_mono hr (Ne.symm hji)) hclosed (.inr ⟨From.later h3.1 (h3.2.1 hDj), fun k ok hk hdk hun => ?_⟩) ?_⟩) h2
        · refine hD k ok hk hdk ?_
          by_cases hjk : j = k
          · subst hjk
            rw [hDj] at hdk
            cases hdk
          · rw [getD_set_ne true hjk] at hun; exact hun
        · rw [Array.setIfInBounds_comm _ _ hji]
          exact h3.2.2
theorem oneR {i : Nat} {oi : Oper} {f : Nat} {l : Array Bool} {a : Act} {w : World} (hi : ops[i]? = some oi) (hr : Region.ready md ops l = [i])
    (h : wpOp P ops Q i (fun a' w' => (D i = false → Ag (fun _ => False) w w') ∧ wpAnyR P md ops Q D f (l.setIfInBounds i true) a' w') a w) : wpAnyR P md ops Q D (f + 1) l a w := by
  refine ⟨fun h0 => (by rw [hr] at h0; cases h0), fun j hj => ?_⟩
  rw [hr] at hj
  have hji : j = i := by simpa using hj
  subst hji
  exact h
theorem doneR {l : Array Bool} {a : Act} {w : World} (hr : Region.ready md ops l = []) (h : Q .normal a w) : ∀ f, wpAnyR P md ops Q D f l a w
  | 0 => ⟨hr, h⟩
  | _ + 1 => ⟨fun _ => h, by rw [hr]; simp⟩
end
end Go.Proofs.YthbojpaghbbnnaaDoor.Z
namespace Go.Proofs.YthbojpaghbbnnaaDoor.Z
open Go Go.RowKit
set_option linter.unusedVariables false
set_option linter.unusedSimpArgs false
theorem length_setn {α : Type} (y : α) : ∀ (l : List α) (i : Nat), (setn y l i).length = l.length
  | [], _ => rfl
  | _ :: _, 0 => rfl
  | _ :: l, i + 1 => by simp [setn, length_setn y l i]
theorem atn_setn {α : Type} (d y : α) : ∀ (l : List α) (i j : Nat), atn d (setn y l i) j = if i = j ∧ i < l.length then y else atn d l j
  | [], i, j => by simp [setn, atn]
  | x :: l, 0, 0 => by simp [setn, atn]
  | x :: l, 0, j + 1 => by simp [setn, atn]
  | x :: l, i + 1, 0 => by simp [setn, atn]
  | x :: l, i + 1, j + 1 => by
    have := atn_setn d y l i j
    simp only [setn, atn, this, List.length_cons]
    by_cases h : i = j ∧ i < l.length
    · rw [if_pos h, if_pos ⟨by omega, by omega⟩]
    · rw [if_neg h, if_neg (by omega)]
theorem length_mapn {α : Type} (f : α → α) : ∀ l : List α, (mapn f l).length = l.length
  | [] => rfl
  | _ :: l => by simp [mapn, length_mapn f l]
theorem atn_mapn {α : Type} (d : α) (f : α → α) (hd : f d = d) : ∀ (l : List α) (i : Nat), atn d (mapn f l) i = f (atn d l i)
  | [], _ => hd.symm
  | _ :: _, 0 => rfl
  | _ :: l, i + 1 => atn_mapn d f hd l i
theorem atn_out {α : Type} (d : α) : ∀ (l : List α) (i : Nat), l.length ≤ i → atn d l i = d
  | [], _, _ => rfl
  | _ :: l, 0, h => by simp at h
  | _ :: l, i + 1, h => atn_out d l i (by simpa using h)
theorem atn_append {α : Type} (d : α) : ∀ (l r : List α) (i : Nat), atn d (l ++ r) i = if i < l.length then atn d l i else atn d r (i - l.length)
  | [], r, i => by simp
  | x :: l, r, 0 => by simp [atn]
  | x :: l, r, i + 1 => by
    have := atn_append d l r i
    simp only [List.cons_append, atn, this, List.length_cons]
    by_cases h : i < l.length
    · rw [if_pos h, if_pos (by omega)]
    · rw [if_neg h, if_neg (by omega), show i + 1 - (l.length + 1) = i - l.length by omega]
theorem atn_mem {α : Type} (d : α) : ∀ (l : List α) (i : Nat), i < l.length → atn d l i ∈ l
  | [], _, h => by simp at h
  | _ :: _, 0, _ => by simp [atn]
  | _ :: l, i + 1, h => List.mem_cons_of_mem _ (atn_mem d l i (by simpa using h))
def nilV : Value := .slice none 0 0
def blk : Value → Option Nat
  | .slice (some a) _ _ => some a.block
  | .pointer (some a) => some a.block
  | _ => none
def Us (U0 : Nat → Prop) (n : Nat) (hd : Nat → Value) : Nat → Prop := fun b => U0 b ∨ ∃ i, i < n ∧ blk (hd i) = some b
def RA (ρ : Obs) (U : Nat → Prop) (w : World) (hd : Nat → Value) : A → Value → Prop
  | .un, _ => True
  | .und, v => v = undef
  | .v t x, v => IRd ρ U w t v x
  | .nls, v => v = .slice none 0 0
  | .nlp, v => v = .pointer none
  | .row i, v => v = hd i
  | .cut i n full, v => ∃ a l c c', hd i = .slice a l c ∧ n ≤ l ∧ v = .slice a n c' ∧ n ≤ c' ∧ (full = true → c' = c)
  | .adr i j k s _, v => ∃ b l c, hd i = .slice (some ⟨b, 0, none⟩) l c ∧ j < l ∧ v = .pointer (some ⟨b, j * s + k, none⟩)
  | .ref t x, v => ∃ b off cs, v = .pointer (some ⟨b, off, none⟩) ∧ ICs ρ U w t cs x ∧ ∀ w', Ag U w w' → ∀ j, j < t.size → w'.cell? ⟨b, off + j, none⟩ = cs[j]?
  | .box i k, v => ∃ b, hd i = .pointer (some ⟨b, 0, none⟩) ∧ v = .pointer (some ⟨b, k, none⟩)
  | .tnil, v => v = .tuple #[]
  | .tcons a b, v => ∃ x xs, v = .tuple (x :: xs).toArray ∧ RA ρ U w hd a x ∧ RA ρ U w hd b (.tuple xs.toArray)
  | .str a, v => ∃ xs, v = .agg (List.toArray xs) ∧ (∀ x ∈ xs, x.oneCell' = true) ∧ RA ρ U w hd a (.tuple xs.toArray)
theorem RA.tr {ρ : Obs} {U U' : Nat → Prop} {w w' : World} {hd hd' : Nat → Value} (k : Tr U w U' w') : ∀ {x : A} {v : Value}, (∀ i ∈ x.refs, hd' i = hd i) → RA ρ U w hd x v → RA ρ U' w' hd' x v
  | .un, _, _, _ => trivial
  | .und, _, _, h => h
  | .v _ _, _, _, h => IRd.tr h k
  | .nls, _, _, h => h
  | .nlp, _, _, h => h
  | .row i, v, hr, h => by
    have := hr i (by simp [A.refs])
    simp only [RA] at h ⊢
    rw [this]
    exact h
  | .cut i n f, v, hr, h => by
    have := hr i (by simp [A.refs])
    simp only [RA] at h ⊢
    rw [this]
    exact h
  | .adr i _ _ _ _, v, hr, h => by
    have := hr i (by simp [A.refs])
    simp only [RA] at h ⊢
    rw [this]
    exact h
  | .ref _ _, _, _, ⟨b, off, cs, e, h1, h2⟩ => ⟨b, off, cs, e, ICs.tr k h1, fun w'' hw => h2 w'' (k w'' hw)⟩
  | .box i _, v, hr, h => by
    have := hr i (by simp [A.refs])
    simp only [RA] at h ⊢
    rw [this]
    exact h
  | .tnil, _, _, h => h
  | .tcons a b, _, hr, ⟨x, xs, e, h1, h2⟩ => ⟨x, xs, e, RA.tr k (fun i hi => hr i (by simp [A.refs, hi])) h1, RA.tr k (fun i hi => hr i (by simp [A.refs, hi])) h2⟩
  | .str a, _, hr, ⟨xs, e, h1, h2⟩ => ⟨xs, e, h1, RA.tr k (x := a) hr h2⟩
def RO (ρ : Obs) (U : Nat → Prop) (w : World) (hd : Nat → Value) (B : Nat) : Ob → Value → Prop
  | .row e t xs, v => ∃ cs, w.ownsRow B e t.size v xs.length cs ∧ Els (ICs ρ U w t) cs xs
  | .cells e l, v => ∃ b vs, v = .pointer (some ⟨b, 0, none⟩) ∧ B ≤ b ∧ w.heap[b]? = some (.cells (List.toArray vs) e (0, 0)) ∧ vs.length = l.length ∧ ∀ i, i < l.length → ∃ x, vs[i]? = some x ∧ x.oneCell' = true ∧ RA ρ U w hd (atn .un l i) x
  | .gone, v => v = nilV
theorem own_of_block {w w' : World} {B sz n : Nat} {e : TypeId} {v : Value} {cs : List Value} (h : w.ownsRow B e sz v n cs) (hb : ∀ b, blk v = some b → w'.heap[b]? = w.heap[b]?) : w'.ownsRow B e sz v n cs := by
  obtain ⟨h1, h2⟩ := h
  refine ⟨h1, h2.imp id ?_⟩
  rintro ⟨g, cap, cur, e1, e2, e3, e4⟩
  exact ⟨g, cap, cur, e1, e2, (hb g (by rw [e1]; rfl)).trans e3, e4⟩
theorem own_blk {w : World} {B sz n : Nat} {e : TypeId} {v : Value} {cs : List Value} (h : w.ownsRow B e sz v n cs) {b : Nat} (hb : blk v = some b) : B ≤ b ∧ b < w.heap.size := by
  obtain ⟨h1, ⟨rfl, _⟩ | ⟨g, cap, cur, rfl, e2, e3, e4⟩⟩ := h
  · simp [blk] at hb
  · have : g = b := by simpa [blk] using hb
    subst this
    exact ⟨e2, (Array.getElem?_eq_some_iff.1 e3).1⟩
theorem RO.blk_ge {ρ : Obs} {U : Nat → Prop} {w : World} {hd : Nat → Value} {B : Nat} {o : Ob} {v : Value} (h : RO ρ U w hd B o v) {b : Nat} (hb : blk v = some b) : B ≤ b ∧ b < w.heap.size := by
  cases o with
  | row e t xs => obtain ⟨cs, h1, _⟩ := h; exact own_blk h1 hb
  | cells e l =>
    obtain ⟨b', vs, rfl, h1, h2, _⟩ := h
    have : b' = b := by simpa [blk] using hb
    subst this
    exact ⟨h1, (Array.getElem?_eq_some_iff.1 h2).1⟩
  | gone => simp only [RO] at h; rw [h] at hb; simp [blk, nilV] at hb
theorem RO.tr {ρ : Obs} {U U' : Nat → Prop} {w w' : World} {hd hd' : Nat → Value} {B : Nat} {o : Ob} {v : Value} (k : Tr U w U' w') (hr : ∀ i ∈ o.refs, hd' i = hd i) (hb : ∀ b, blk v = some b → w'.heap[b]? = w.heap[b]?) (h : RO ρ U w hd B o v) : RO ρ U' w' hd' B o v := by
  cases o with
  | row e t xs =>
    obtain ⟨cs, h1, h2⟩ := h
    exact ⟨cs, own_of_block h1 hb, h2.mono (fun c x q => ICs.tr k q)⟩
  | cells e l =>
    obtain ⟨b, vs, rfl, h1, h2, h3, h4⟩ := h
    refine ⟨b, vs, rfl, h1, (hb b rfl).trans h2, h3, fun i hi => ?_⟩
    obtain ⟨x, hx, ho, hxr⟩ := h4 i hi
    refine ⟨x, hx, ho, RA.tr k (fun j hj => hr j ?_) hxr⟩
    exact List.mem_flatMap.2 ⟨_, atn_mem _ l i hi, hj⟩
  | gone => exact h
theorem RA.to {ρ ρ' : Obs} (er : ρ'.rel = ρ.rel) {U : Nat → Prop} {w : World} {hd : Nat → Value} (ks : ∀ w'', Ag (Orp U ρ'.V) w w'' → Ag (Orp U ρ.V) w w'') : ∀ {x : A} {v : Value}, RA ρ U w hd x v → RA ρ' U w hd x v
  | .un, _, _ => trivial
  | .und, _, h => h
  | .v _ _, _, h => IRd.to er h (.inl fun _ q => q) ks
  | .nls, _, h => h
  | .nlp, _, h => h
  | .row _, _, h => h
  | .cut _ _ _, _, h => h
  | .adr _ _ _ _ _, _, h => h
  | .ref _ _, _, ⟨b, off, cs, e, h1, h2⟩ => ⟨b, off, cs, e, ICs.to er (.inl fun _ q => q) ks h1, h2⟩
  | .box _ _, _, h => h
  | .tnil, _, h => h
  | .tcons _ _, _, ⟨x, xs, e, h1, h2⟩ => ⟨x, xs, e, RA.to er ks h1, RA.to er ks h2⟩
  | .str a, _, ⟨xs, e, h1, h2⟩ => ⟨xs, e, h1, RA.to er ks (x := a) h2⟩
theorem RO.to {ρ ρ' : Obs} (er : ρ'.rel = ρ.rel) {U : Nat → Prop} {w : World} {hd : Nat → Value} {B : Nat} (ks : ∀ w'', Ag (Orp U ρ'.V) w w'' → Ag (Orp U ρ.V) w w'') {o : Ob} {v : Value} (h : RO ρ U w hd B o v) : RO ρ' U w hd B o v := by
  cases o with
  | row e t xs =>
    obtain ⟨cs, h1, h2⟩ := h
    exact ⟨cs, h1, h2.mono (fun c x q => ICs.to er (.inl fun _ q => q) ks q)⟩
  | cells e l =>
    obtain ⟨b, vs, rfl, h1, h2, h3, h4⟩ := h
    refine ⟨b, vs, rfl, h1, h2, h3, fun i hi => ?_⟩
    obtain ⟨x, hx, ho, hxr⟩ := h4 i hi
    exact ⟨x, hx, ho, RA.to er ks hxr⟩
  | gone => exact h
/-- The state st tells the state a, w; hd: where the objects lie. -/
structure Rel (ρ : Obs) (w0 : World) (U0 : Nat → Prop) (own : Nat) (fx : Nat → Bool) (hd0 : Nat → Value) (st : St) (a : Act) (w : World) (hd : Nat → Value) : Prop where
  sz : a.tmps.size = st.tm.length
  df : a.defers = []
  sl : ∀ i v, a.tmps[i]? = some v → RA ρ (Us U0 st.ob.length hd) w hd (atn .un st.tm i) v
  ob : ∀ i, i < st.ob.length → RO ρ (Us U0 st.ob.length hd) w hd (if i < own then 0 else w0.heap.size) (atn .gone st.ob i) (hd i)
  ne : ∀ i j, i < st.ob.length → j < st.ob.length → i ≠ j → ∀ b, blk (hd i) = some b → blk (hd j) ≠ some b
  keep : ∀ i, i < own → fx i = true → hd i = hd0 i
  kp : ∀ i, i < own → ∀ b, blk (hd i) = some b → blk (hd0 i) = some b ∨ w0.heap.size ≤ b
  ow : own ≤ st.ob.length
  ag : Ag (Us (fun _ => False) own hd0) w0 w
  u0 : ∀ b, U0 b → b < w0.heap.size ∧ ∀ i, i < own → blk (hd0 i) ≠ some b
  wt : ∀ i, ∀ j ∈ (atn .un st.tm i).refs, j < st.ob.length
  wo : ∀ i, ∀ j ∈ (atn .gone st.ob i).refs, j < st.ob.length
section
variable {ρ : Obs} {w0 : World} {U0 : Nat → Prop} {own : Nat} {fx : Nat → Bool} {hd0 : Nat → Value} {st : St} {a : Act} {w : World} {hd : Nat → Value}
theorem Rel.lt (h : Rel ρ w0 U0 own fx hd0 st a w hd) {i b : Nat} (hi : i < st.ob.length) (hb : blk (hd i) = some b) : b < w.heap.size := ((h.ob i hi).blk_ge hb).2
theorem Rel.ge (h : Rel ρ w0 U0 own fx hd0 st a w hd) {i b : Nat} (hi : i < st.ob.length) (ho : own ≤ i) (hb : blk (hd i) = some b) : w0.heap.size ≤ b := by
  have := ((h.ob i hi).blk_ge hb).1
  rwa [if_neg (by omega)] at this
/-- What holds of the world throughout a run (object kind 3), as long as no block of U turns. -/
structure KOk (ρ : Obs) (U : Nat → Prop) (w : World) : Prop where
  all : ∀ w', Ag U w w' → ρ 3 w' (.bool true) ()
  vlt : ∀ b, ρ.V b → b < w.heap.size
instance {ρ : Obs} {U : Nat → Prop} {w : World} : CoeFun (KOk ρ U w) (fun _ => ∀ w', Ag U w w' → ρ 3 w' (.bool true) ()) := ⟨KOk.all⟩
theorem KOk.tr {U U' : Nat → Prop} {w w' : World} (k : Tr U w U' w') (h : KOk ρ U w) : KOk ρ U' w' := ⟨fun w'' q => h w'' (k w'' q), fun b hb => Nat.lt_of_lt_of_le (h.vlt b hb) (k w' (Ag.refl _ _)).size⟩
/-- The same state, as one sees it for whom other blocks may turn. -/
theorem Rel.to {ρ' : Obs} (er : ρ'.rel = ρ.rel) (ks : ∀ w'', Ag (Orp (Us U0 st.ob.length hd) ρ'.V) w w'' → Ag (Orp (Us U0 st.ob.length hd) ρ.V) w w'') (h : Rel ρ w0 U0 own fx hd0 st a w hd) : Rel ρ' w0 U0 own fx hd0 st a w hd :=
  ⟨h.sz, h.df, fun i v hv => RA.to er ks (h.sl i v hv), fun i hi => RO.to er ks (h.ob i hi), h.ne, h.keep, h.kp, h.ow, h.ag, h.u0, h.wt, h.wo⟩
theorem Rel.kok (h : Rel ρ w0 U0 own fx hd0 st a w hd) (hK : KOk ρ (Us U0 own hd0) w0) : KOk ρ (Us U0 st.ob.length hd) w := ⟨fun w' q => hK w' ⟨q.os.trans h.ag.os, q.tape.trans h.ag.tape, q.output.trans h.ag.output, Nat.le_trans h.ag.size q.size, fun b hb hn => by
  have h1 : w.heap[b]? = w0.heap[b]? := h.ag.block b hb (fun hu => hn (hu.imp (fun f => f.elim) id))
  refine (q.block b (Nat.lt_of_lt_of_le hb h.ag.size) (fun hu => ?_)).trans h1
  rcases hu with hu | ⟨i, hi, hbi⟩
  · exact hn (.inl hu)
  · rcases Nat.lt_or_ge i own with ho | ho
    · rcases h.kp i ho b hbi with q2 | q2
      · exact hn (.inr ⟨i, ho, q2⟩)
      · omega
    · have := h.ge hi ho hbi
      omega⟩, fun b hb => Nat.lt_of_lt_of_le (hK.vlt b hb) h.ag.size⟩
theorem Rel.u0n (h : Rel ρ w0 U0 own fx hd0 st a w hd) {i b : Nat} (hi : i < st.ob.length) (hb : blk (hd i) = some b) : ¬ U0 b := by
  intro hu
  obtain ⟨h1, h2⟩ := h.u0 b hu
  rcases Nat.lt_or_ge i own with ho | ho
  · rcases h.kp i ho b hb with hb | hb
    · exact h2 i ho hb
    · omega
  · have := h.ge hi ho hb
    omega
theorem Rel.ev_ (h : Rel ρ w0 U0 own fx hd0 st a w hd) (x : Operand) : RA ρ (Us U0 st.ob.length hd) w hd (ev st x) (a.eval x) := by
  cases x with
  | tmp t =>
    simp only [ev, Act.eval]
    rcases Nat.lt_or_ge t a.tmps.size with h1 | h1
    · have := h.sl t a.tmps[t] (Array.getElem?_eq_getElem h1)
      simpa [Array.getD, h1] using this
    · rw [atn_out _ _ _ (by rw [← h.sz]; exact h1)]
      trivial
  | const v =>
    simp only [ev, Act.eval]
    unfold lit
    split
    · exact ⟨_, rfl, rfl⟩
    · exact ⟨_, rfl, rfl⟩
    · exact ⟨_, rfl, rfl⟩
    · rfl
    · rfl
    · trivial
  | global g => trivial
  | func f => trivial
theorem put_tmps (d : Option Tmp) (v : Value) (i : Nat) (u : Value) (hu : (a.put d v).tmps[i]? = some u) : (d = some i ∧ u = v) ∨ a.tmps[i]? = some u := by
  cases d with
  | none => exact .inr hu
  | some d =>
    simp only [Act.put, Array.getElem?_setIfInBounds] at hu
    by_cases e : d = i
    · rw [if_pos e] at hu
      by_cases hs : d < a.tmps.size
      · rw [if_pos hs] at hu
        exact .inl ⟨by rw [e], by injection hu with hu; exact hu.symm⟩
      · rw [if_neg hs] at hu; cases hu
    · rw [if_neg e] at hu
      exact .inr hu
theorem size_put (d : Option Tmp) (v : Value) : (a.put d v).tmps.size = a.tmps.size := by cases d <;> simp [Act.put]
theorem put_ob (st : St) (d : Option Tmp) (x : A) : (st.put d x).ob = st.ob := by cases d <;> rfl
theorem put_len (st : St) (d : Option Tmp) (x : A) : (st.put d x).tm.length = st.tm.length := by cases d <;> simp [St.put, length_setn]
/-- A temporary gets a value. -/
theorem put_refs (st : St) (d : Option Tmp) (x : A) {n : Nat} (h : ∀ i, ∀ j ∈ (atn .un st.tm i).refs, j < n) (hx : ∀ j ∈ x.refs, j < n) : ∀ i, ∀ j ∈ (atn .un (st.put d x).tm i).refs, j < n := by
  intro i j hj
  cases d with
  | none => exact h i j hj
  | some d =>
    simp only [St.put, atn_setn] at hj
    split at hj
    · exact hx j hj
    · exact h i j hj
theorem Rel.put (h : Rel ρ w0 U0 own fx hd0 st a w hd) {x : A} {v : Value} (hx : RA ρ (Us U0 st.ob.length hd) w hd x v) (hxr : ∀ j ∈ x.refs, j < st.ob.length) (d : Option Tmp) : Rel ρ w0 U0 own fx hd0 (st.put d x) (a.put d v) w hd := by
  refine ⟨by rw [size_put, put_len]; exact h.sz, by cases d <;> exact h.df, fun i u hu => ?_, by rw [put_ob]; exact h.ob, by rw [put_ob]; exact h.ne, h.keep, h.kp, by rw [put_ob]; exact h.ow, h.ag, h.u0, by rw [put_ob]; exact put_refs st d x h.wt hxr, by rw [put_ob]; exact h.wo⟩
  rw [put_ob]
  rcases put_tmps d v i u hu with ⟨rfl, rfl⟩ | hu'
  · have hs : i < st.tm.length := by
      rw [← h.sz]
      have := (Array.getElem?_eq_some_iff.1 hu).1
      rwa [size_put] at this
    simp only [St.put, atn_setn, hs, and_self, if_true]
    exact hx
  · cases d with
    | none => exact h.sl i u hu'
    | some d =>
      simp only [St.put, atn_setn]
      split
      · rename_i hc
        obtain ⟨rfl, hc⟩ := hc
        have := (put_tmps (a := a) (some d) v d v (by simp [Act.put, h.sz, hc]))
        have e : u = v := by
          simp only [Act.put, Array.getElem?_setIfInBounds, h.sz, hc, if_true] at hu
          injection hu with hu
          exact hu.symm
        rw [e]
        exact hx
      · exact h.sl i u hu'
/-- Memory grows; nothing that was there turns. -/
theorem Rel.grow (h : Rel ρ w0 U0 own fx hd0 st a w hd) {w' : World} (k : Ag (fun _ => False) w w') : Rel ρ w0 U0 own fx hd0 st a w' hd := by
  have ht : Tr (Us U0 st.ob.length hd) w (Us U0 st.ob.length hd) w' := Tr.of k (fun _ _ h => h.elim) (fun _ _ h => h)
  exact ⟨h.sz, h.df, fun i v hv => RA.tr ht (fun _ _ => rfl) (h.sl i v hv), fun i hi => RO.tr ht (fun _ _ => rfl) (fun b hb => k.block b (h.lt hi hb) (fun h => h)) (h.ob i hi), h.ne, h.keep, h.kp, h.ow,
    h.ag.trans (k.mono (fun _ _ h => h.elim)), h.u0, h.wt, h.wo⟩
/-- An object more. -/
theorem Rel.new (h : Rel ρ w0 U0 own fx hd0 st a w hd) {w' : World} (k : Ag (fun _ => False) w w') {o : Ob} {v : Value} (hd' : Nat → Value) (hlt : ∀ i, i < st.ob.length → hd' i = hd i) (hn : hd' st.ob.length = v)
    (hor : ∀ j ∈ o.refs, j < st.ob.length)
    (hb : ∀ b, blk v = some b → w.heap.size ≤ b) (ho : RO ρ (Us U0 (st.ob.length + 1) hd') w' hd' w0.heap.size o v) : Rel ρ w0 U0 own fx hd0 ⟨st.tm, st.ob ++ [o]⟩ a w' hd' := by
  have hU : ∀ b, b < w.heap.size → Us U0 (st.ob.length + 1) hd' b → Us U0 st.ob.length hd b := by
    rintro b hbl (hu | ⟨i, hi, hib⟩)
    · exact .inl hu
    · rcases Nat.lt_or_ge i st.ob.length with h1 | h1
      · exact .inr ⟨i, h1, by rw [← hlt i h1]; exact hib⟩
      · have : i = st.ob.length := by omega
        subst this
        rw [hn] at hib
        have := hb b hib
        omega
  have ht : Tr (Us U0 st.ob.length hd) w (Us U0 (st.ob.length + 1) hd') w' := Tr.of k (fun _ _ h => h.elim) hU
  refine ⟨h.sz, h.df, fun i u hu => ?_, fun i hi => ?_, fun i j hi hj hij b hbi hbj => ?_, fun i hi hf => ?_, fun i hi b hb' => ?_, ?_, h.ag.trans (k.mono (fun _ _ h => h.elim)), h.u0, fun i j hj => ?_, fun i j hj => ?_⟩
  · simp only [List.length_append, List.length_singleton]
    exact RA.tr ht (fun j hj => hlt j (h.wt i j hj)) (h.sl i u hu)
  · simp only [List.length_append, List.length_singleton] at hi ⊢
    rw [atn_append]
    rcases Nat.lt_or_ge i st.ob.length with h1 | h1
    · rw [if_pos h1, hlt i h1]
      exact RO.tr ht (fun j hj => hlt j (h.wo i j hj)) (fun b hb => k.block b (h.lt h1 hb) (fun h => h)) (h.ob i h1)
    · have : i = st.ob.length := by omega
      subst this
      rw [if_neg (Nat.not_lt.2 h.ow), if_neg (Nat.lt_irrefl _), Nat.sub_self, hn]
      exact ho
  · simp only [List.length_append, List.length_singleton] at hi hj
    rcases Nat.lt_or_ge i st.ob.length with h1 | h1
    · rw [hlt i h1] at hbi
      rcases Nat.lt_or_ge j st.ob.length with h2 | h2
      · rw [hlt j h2] at hbj
        exact h.ne i j h1 h2 hij b hbi hbj
      · have : j = st.ob.length := by omega
        subst this
        rw [hn] at hbj
        have := hb b hbj
        have := h.lt h1 hbi
        omega
    · have : i = st.ob.length := by omega
      subst this
      rw [hn] at hbi
      have h2 : j < st.ob.length := by omega
      rw [hlt j h2] at hbj
      have := hb b hbi
      have := h.lt h2 hbj
      omega
  · rw [hlt i (by have := h.ow; omega)]
    exact h.keep i hi hf
  · rw [hlt i (by have := h.ow; omega)] at hb'
    exact h.kp i hi b hb'
  · simp only [List.length_append, List.length_singleton]
    have := h.ow
    omega
  · simp only [List.length_append, List.length_singleton]
    have := h.wt i j hj
    omega
  · simp only [List.length_append, List.length_singleton]
    rw [atn_append] at hj
    split at hj
    · have := h.wo i j hj
      omega
    · have := hor j (by
        rcases Nat.eq_zero_or_pos (i - st.ob.length) with e | e
        · rw [e] at hj; exact hj
        · rw [atn_out _ _ _ (by simp; omega)] at hj
          simp [Ob.refs] at hj)
      omega
theorem frz_un (o : Ob) (i : Nat) : A.frz o i .un = .un := rfl
theorem ofrz_gone (o : Ob) (i : Nat) : Ob.frz o i .gone = .gone := rfl
theorem frz_refs {o : Ob} {m : Nat} : ∀ {x : A} {j : Nat}, j ∈ (A.frz o m x).refs → j ∈ x.refs ∧ j ≠ m
  | .row i, j, h => by
    simp only [A.frz] at h
    split at h
    · split at h <;> simp [A.refs] at h
    · rename_i hne
      simp [A.refs] at h
      subst h
      exact ⟨by simp [A.refs], hne⟩
  | .cut i n f, j, h => by
    simp only [A.frz] at h
    split at h
    · split at h <;> simp [A.refs] at h
    · rename_i hne
      simp [A.refs] at h
      subst h
      exact ⟨by simp [A.refs], hne⟩
  | .adr i _ _ _ _, j, h => by
    simp only [A.frz] at h
    split at h
    · simp [A.refs] at h
    · rename_i hne
      simp [A.refs] at h
      subst h
      exact ⟨by simp [A.refs], hne⟩
  | .box i _, j, h => by
    simp only [A.frz] at h
    split at h
    · simp [A.refs] at h
    · rename_i hne
      simp [A.refs] at h
      subst h
      exact ⟨by simp [A.refs], hne⟩
  | .tcons a b, j, h => by
    simp only [A.frz, A.refs, List.mem_append] at h ⊢
    rcases h with h | h
    · have := frz_refs h; exact ⟨.inl this.1, this.2⟩
    · have := frz_refs h; exact ⟨.inr this.1, this.2⟩
  | .str a, j, h => frz_refs (x := a) h
  | .un, _, h => by simp [A.frz, A.refs] at h
  | .und, _, h => by simp [A.frz, A.refs] at h
  | .v _ _, _, h => by simp [A.frz, A.refs] at h
  | .nls, _, h => by simp [A.frz, A.refs] at h
  | .nlp, _, h => by simp [A.frz, A.refs] at h
  | .ref _ _, _, h => by simp [A.frz, A.refs] at h
  | .tnil, _, h => by simp [A.frz, A.refs] at h
theorem mapn_mem {α : Type} (f : α → α) : ∀ {l : List α} {y : α}, y ∈ mapn f l → ∃ x ∈ l, f x = y
  | _ :: l, y, h => by
    simp only [mapn, List.mem_cons] at h
    rcases h with h | h
    · exact ⟨_, List.mem_cons_self .., h.symm⟩
    · obtain ⟨x, hx, e⟩ := mapn_mem f h
      exact ⟨x, List.mem_cons_of_mem _ hx, e⟩
theorem ofrz_refs {o : Ob} {m : Nat} {x : Ob} {j : Nat} (h : j ∈ (Ob.frz o m x).refs) : j ∈ x.refs ∧ j ≠ m := by
  cases x with
  | row e t xs => simp [Ob.frz, Ob.refs] at h
  | gone => simp [Ob.frz, Ob.refs] at h
  | cells e l =>
    simp only [Ob.frz, Ob.refs, List.mem_flatMap] at h ⊢
    obtain ⟨y, hy, hj⟩ := h
    obtain ⟨x, hx, rfl⟩ := mapn_mem _ hy
    have := frz_refs hj
    exact ⟨⟨x, hx, this.1⟩, this.2⟩
/-- Where the row's content is known for ever (or nothing of it is asked), what was known of the rest holds. -/
theorem RA.frz {U' : Nat → Prop} {w' : World} {U : Nat → Prop} {hd' : Nat → Value} {o : Ob} {m : Nat} (k : Tr U w U' w') (hne : ∀ i, i ≠ m → hd' i = hd i)
    (ho : ∀ e t xs, o = .row e t xs → IRd ρ U' w' (.list t) (hd m) xs ∧ ∀ n a l c c', hd m = .slice a l c → n ≤ l → n ≤ c' → IRd ρ U' w' (.list t) (.slice a n c') (List.take n xs)) :
    ∀ {x : A} {v : Value}, RA ρ U w hd x v → RA ρ U' w' hd' (A.frz o m x) v
  | .row i, v, h => by
    simp only [A.frz]
    split
    · rename_i e
      subst e
      simp only [RA] at h
      subst h
      split
      · exact (ho _ _ _ rfl).1
      · trivial
    · rename_i e
      simp only [RA] at h ⊢
      rw [hne i e]
      exact h
  | .cut i n f, v, h => by
    simp only [A.frz]
    split
    · rename_i e
      subst e
      obtain ⟨a, l, c, c', h1, h2, rfl, h3, _⟩ := h
      split
      · exact (ho _ _ _ rfl).2 n a l c c' h1 h2 h3
      · trivial
    · rename_i e
      simp only [RA] at h ⊢
      rw [hne i e]
      exact h
  | .adr i _ _ _ _, v, h => by
    simp only [A.frz]
    split
    · trivial
    · rename_i e
      simp only [RA] at h ⊢
      rw [hne i e]
      exact h
  | .box i _, v, h => by
    simp only [A.frz]
    split
    · trivial
    · rename_i e
      simp only [RA] at h ⊢
      rw [hne i e]
      exact h
  | .tcons a b, v, ⟨x, xs, e, h1, h2⟩ => ⟨x, xs, e, RA.frz k hne ho h1, RA.frz k hne ho h2⟩
  | .str a, v, ⟨xs, e, h1, h2⟩ => ⟨xs, e, h1, RA.frz k hne ho (x := a) h2⟩
  | .un, _, _ => trivial
  | .und, _, h => h
  | .v _ _, _, h => IRd.tr h k
  | .nls, _, h => h
  | .nlp, _, h => h
  | .ref _ _, _, ⟨b, off, cs, e, h1, h2⟩ => ⟨b, off, cs, e, ICs.tr k h1, fun w'' hw => h2 w'' (k w'' hw)⟩
  | .tnil, _, h => h
theorem RO.frz {U' : Nat → Prop} {w' : World} {U : Nat → Prop} {hd' : Nat → Value} {o : Ob} {m B : Nat} (k : Tr U w U' w') (hne : ∀ i, i ≠ m → hd' i = hd i)
    (ho : ∀ e t xs, o = .row e t xs → IRd ρ U' w' (.list t) (hd m) xs ∧ ∀ n a l c c', hd m = .slice a l c → n ≤ l → n ≤ c' → IRd ρ U' w' (.list t) (.slice a n c') (List.take n xs))
    {x : Ob} {v : Value} (hb : ∀ b, blk v = some b → w'.heap[b]? = w.heap[b]?) (h : RO ρ U w hd B x v) : RO ρ U' w' hd' B (Ob.frz o m x) v := by
  cases x with
  | row e t xs =>
    obtain ⟨cs, h1, h2⟩ := h
    exact ⟨cs, own_of_block h1 hb, h2.mono (fun c x q => ICs.tr k q)⟩
  | cells e l =>
    obtain ⟨b, vs, rfl, h1, h2, h3, h4⟩ := h
    refine ⟨b, vs, rfl, h1, (hb b rfl).trans h2, by rw [length_mapn]; exact h3, fun i hi => ?_⟩
    rw [length_mapn] at hi
    obtain ⟨x, hx, ho', hxr⟩ := h4 i hi
    refine ⟨x, hx, ho', ?_⟩
    rw [atn_mapn _ _ (frz_un o m)]
    exact RA.frz k hne ho hxr
  | gone => exact h
/-- Object m becomes another one; o: what is left of the old one's content. -/
theorem Rel.turn (h : Rel ρ w0 U0 own fx hd0 st a w hd) {m : Nat} (hm : m < st.ob.length) {w' : World} (hag : Ag (fun b => blk (hd m) = some b) w w') {o o' : Ob} {v' : Value} (hd' : Nat → Value) (hne : ∀ i, i ≠ m → hd' i = hd i) (hv : hd' m = v')
    (hown : m < own → fx m = true → v' = hd m) (hbl : ∀ b, blk v' = some b → blk (hd m) = some b ∨ w.heap.size ≤ b) (hor : ∀ j ∈ o'.refs, j < st.ob.length)
    (ho : ∀ e t xs, o = .row e t xs → IRd ρ (Us U0 st.ob.length hd') w' (.list t) (hd m) xs ∧ ∀ n a l c c', hd m = .slice a l c → n ≤ l → n ≤ c' → IRd ρ (Us U0 st.ob.length hd') w' (.list t) (.slice a n c') (List.take n xs))
    (hro : RO ρ (Us U0 st.ob.length hd') w' hd' (if m < own then 0 else w0.heap.size) o' v') :
    Rel ρ w0 U0 own fx hd0 ⟨mapn (A.frz o m) st.tm, setn o' (mapn (Ob.frz o m) st.ob) m⟩ a w' hd' := by
  have hU : ∀ b, b < w.heap.size → Us U0 st.ob.length hd' b → Us U0 st.ob.length hd b := by
    rintro b hb (hu | ⟨i, hi, hib⟩)
    · exact .inl hu
    · by_cases e : i = m
      · subst e
        rw [hv] at hib
        rcases hbl b hib with h1 | h1
        · exact .inr ⟨i, hi, h1⟩
        · omega
      · exact .inr ⟨i, hi, by rw [← hne i e]; exact hib⟩
  have ht : Tr (Us U0 st.ob.length hd) w (Us U0 st.ob.length hd') w' := Tr.of hag (fun b _ hb => .inr ⟨m, hm, hb⟩) hU
  have hlen : (setn o' (mapn (Ob.frz o m) st.ob) m).length = st.ob.length := by rw [length_setn, length_mapn]
  have hoth : ∀ i, i < st.ob.length → i ≠ m → ∀ b, blk (hd i) = some b → w'.heap[b]? = w.heap[b]? := fun i hi e b hb => hag.block b (h.lt hi hb) (fun hb' => h.ne i m hi hm e b hb hb')
  refine ⟨by rw [length_mapn]; exact h.sz, h.df, fun i v hv => ?_, fun i hi => ?_, fun i j hi hj hij b hbi hbj => ?_, fun i hi hf => ?_, fun i hi b hib => ?_, by rw [hlen]; exact h.ow, ?_, h.u0, fun i j hj => ?_, fun i j hj => ?_⟩
  · rw [hlen, atn_mapn _ _ (frz_un o m)]
    exact RA.frz ht hne ho (h.sl i v hv)
  · rw [hlen] at hi ⊢
    by_cases e : m = i
    · subst e
      have e3 : atn Ob.gone (setn o' (mapn (Ob.frz o m) st.ob) m) m = o' := by rw [atn_setn, if_pos ⟨rfl, by rw [length_mapn]; exact hm⟩]
      rw [e3, hv]
      exact hro
    · have e' : i ≠ m := Ne.symm e
      have e3 : atn Ob.gone (setn o' (mapn (Ob.frz o m) st.ob) m) i = Ob.frz o m (atn Ob.gone st.ob i) := by rw [atn_setn, if_neg (fun hc => e hc.1), atn_mapn _ _ (ofrz_gone o m)]
      rw [e3, hne i e']
      exact RO.frz ht hne ho (hoth i hi e') (h.ob i hi)
  · rw [hlen] at hi hj
    by_cases e1 : i = m
    · subst e1
      rw [hv] at hbi
      rw [hne j (Ne.symm hij)] at hbj
      rcases hbl b hbi with h1 | h1
      · exact h.ne i j hi hj hij b h1 hbj
      · have := h.lt hj hbj; omega
    · rw [hne i e1] at hbi
      by_cases e2 : j = m
      · subst e2
        rw [hv] at hbj
        rcases hbl b hbj with h1 | h1
        · exact h.ne i j hi hj hij b hbi h1
        · have := h.lt hi hbi; omega
      · rw [hne j e2] at hbj
        exact h.ne i j hi hj hij b hbi hbj
  · by_cases e : i = m
    · subst e
      rw [hv, hown hi hf]
      exact h.keep i hi hf
    · rw [hne i e]
      exact h.keep i hi hf
  · by_cases e : i = m
    · subst e
      rw [hv] at hib
      rcases hbl b hib with h1 | h1
      · exact h.kp i hi b h1
      · exact .inr (Nat.le_trans h.ag.size h1)
    · rw [hne i e] at hib
      exact h.kp i hi b hib
  · refine ⟨hag.os.trans h.ag.os, hag.tape.trans h.ag.tape, hag.output.trans h.ag.output, Nat.le_trans h.ag.size hag.size, fun b hb hn => ?_⟩
    refine (hag.block b (Nat.lt_of_lt_of_le hb h.ag.size) (fun hbm => ?_)).trans (h.ag.block b hb hn)
    rcases Nat.lt_or_ge m own with h1 | h1
    · rcases h.kp m h1 b hbm with h2 | h2
      · exact hn (.inr ⟨m, h1, h2⟩)
      · omega
    · have := h.ge hm h1 hbm
      omega
  · rw [hlen]
    rw [atn_mapn _ _ (frz_un o m)] at hj
    exact h.wt i j (frz_refs hj).1
  · rw [hlen]
    rw [atn_setn] at hj
    split at hj
    · exact hor j hj
    · rw [atn_mapn _ _ (ofrz_gone o m)] at hj
      exact h.wo i j (ofrz_refs hj).1
end
end Go.Proofs.YthbojpaghbbnnaaDoor.Z
namespace Go.Proofs.YthbojpaghbbnnaaDoor.Z
open Go Go.RowKit
set_option linter.unusedVariables false
set_option linter.unusedSimpArgs false
/-- The zero value's cells. -/
def zeroC : T → List Value
  | .int k => [.int k 0]
  | .bool => [.bool false]
  | .flt => [.float .f64 0]
  | .list _ => [.slice none 0 0]
  | .pair a b => zeroC a ++ zeroC b
  | .obj _ => [.pointer none]
  | .ptr _ => [.pointer none]
  | .one t => zeroC t
/-- What the table says of a type is so. -/
def UndOk (P : Program) (tab : Tab) (id : TypeId) (i : TI) : Und → Prop
  | .sc => (∃ k, i.t = .int k ∧ P.underlying id = some (.int k)) ∨ (i.t = .bool ∧ P.underlying id = some .bool) ∨ (i.t = .flt ∧ P.underlying id = some (.float .f64))
  | .ptr => i.t.isPair = false ∧ ∃ e, P.underlying id = some (.pointer e)
  | .sl e => P.underlying id = some (.slice e) ∧ ∃ j, tab.find e = some j ∧ i.t = .list j.t
  | .st fs => i.t.isPair = true ∧ ∃ fields : Array Field, P.underlying id = some (.struct fields) ∧ fields.size = fs.length ∧ ∀ k, k < fs.length → ∃ f j, fields[k]? = some f ∧ f.offset = (atn (0, 0) fs k).1 ∧ f.type = (atn (0, 0) fs k).2 ∧ tab.find f.type = some j
structure TabOk (P : Program) (tab : Tab) : Prop where
  info : ∀ id i, tab.find id = some i → ∃ inf : TypeInfo, P.info? id = some inf ∧ inf.size = i.t.size ∧ inf.bytes = i.bytes ∧ 0 < i.bytes ∧ inf.zero = some (pack i.t (zeroC i.t))
  und : ∀ id i, tab.find id = some i → UndOk P tab id i i.u
theorem T.size_pos : ∀ t : T, 0 < t.size
  | .int _ => by simp [T.size]
  | .bool => by simp [T.size]
  | .flt => by simp [T.size]
  | .list _ => by simp [T.size]
  | .pair a b => by have := a.size_pos; simp only [T.size]; omega
  | .obj _ => by simp [T.size]
  | .ptr _ => by simp [T.size]
  | .one t => by have := t.size_pos; simp only [T.size]; omega
theorem T.size_one : ∀ t : T, t.isPair = false → t.size = 1
  | .int _, _ => rfl
  | .bool, _ => rfl
  | .flt, _ => rfl
  | .list _, _ => rfl
  | .obj _, _ => rfl
  | .ptr _, _ => rfl
section
variable {P : Program} {tab : Tab} {ρ : Obs} {U : Nat → Prop} {w : World} {hd : Nat → Value}
theorem isAgg_run (ok : TabOk P tab) {id : TypeId} {i : TI} (h : tab.find id = some i) (w : World) : (isAgg id).run P w = .ok i.t.isPair w := by
  have h2 := ok.und id i h
  cases hu : i.u with
  | sc =>
    rw [hu] at h2
    rcases h2 with ⟨k, h3, h4⟩ | ⟨h3, h4⟩ | ⟨h3, h4⟩ <;> rw [h3] <;> simp [isAgg, underlying, h4, go_sem, T.isPair]
  | ptr =>
    rw [hu] at h2
    obtain ⟨h3, e, h4⟩ := h2
    rw [h3]
    simp [isAgg, underlying, h4, go_sem]
  | sl e =>
    rw [hu] at h2
    obtain ⟨h4, j, _, h3⟩ := h2
    rw [h3]
    simp [isAgg, underlying, h4, go_sem, T.isPair]
  | st fs =>
    rw [hu] at h2
    obtain ⟨h3, f, h4, _⟩ := h2
    rw [h3]
    simp [isAgg, underlying, h4, go_sem]
theorem sizeOf_run (ok : TabOk P tab) {id : TypeId} {i : TI} (h : tab.find id = some i) (w : World) : (sizeOf id).run P w = .ok i.t.size w := by
  obtain ⟨inf, h1, h2, _⟩ := ok.info id i h
  simp [sizeOf, typeInfo, h1, h2, go_sem]
/-- A value that is no struct is one cell. -/
theorem ICs.one {w : World} : ∀ {t : T} {cs : List Value} {x : t.den}, t.isPair = false → ICs ρ U w t cs x → ∃ v, cs = [v] ∧ v.cells = #[v] ∧ v.oneCell' = true
  | .int _, _, _, _, h => ⟨_, h, rfl, rfl⟩
  | .bool, _, _, _, h => ⟨_, h, rfl, rfl⟩
  | .flt, _, _, _, h => ⟨_, h, rfl, rfl⟩
  | .list _, _, _, _, ⟨_, _, _, h, _⟩ => ⟨_, h, rfl, rfl⟩
  | .obj _, _, none, _, ⟨v, h, h1⟩ => ⟨v, h, by rw [h1]; rfl, by rw [h1]; rfl⟩
  | .obj _, _, some y, _, ⟨v, h, ⟨a, h1⟩, _⟩ => ⟨v, h, by rw [h1]; rfl, by rw [h1]; rfl⟩
  | .ptr _, _, none, _, ⟨v, h, h1⟩ => ⟨v, h, by rw [h1]; rfl, by rw [h1]; rfl⟩
  | .ptr _, _, some y, _, ⟨v, h, _, _, _, h1, _⟩ => ⟨v, h, by rw [h1]; rfl, by rw [h1]; rfl⟩
theorem ICs.ones {w : World} : ∀ {t : T} {cs : List Value} {x : t.den}, ICs ρ U w t cs x → ∀ v ∈ cs, v.oneCell' = true
  | .int _, _, _, h, v, hv => by obtain ⟨u, rfl, _, h3⟩ := ICs.one rfl h; rw [List.mem_singleton.1 hv]; exact h3
  | .bool, _, _, h, v, hv => by obtain ⟨u, rfl, _, h3⟩ := ICs.one rfl h; rw [List.mem_singleton.1 hv]; exact h3
  | .flt, _, _, h, v, hv => by obtain ⟨u, rfl, _, h3⟩ := ICs.one rfl h; rw [List.mem_singleton.1 hv]; exact h3
  | .list _, _, _, h, v, hv => by obtain ⟨u, rfl, _, h3⟩ := ICs.one rfl h; rw [List.mem_singleton.1 hv]; exact h3
  | .obj _, _, _, h, v, hv => by obtain ⟨u, rfl, _, h3⟩ := ICs.one rfl h; rw [List.mem_singleton.1 hv]; exact h3
  | .ptr _, _, _, h, v, hv => by obtain ⟨u, rfl, _, h3⟩ := ICs.one rfl h; rw [List.mem_singleton.1 hv]; exact h3
  | .one t, cs, x, h, v, hv => ICs.ones (t := t) (cs := cs) (x := x) h v hv
  | .pair a b, _, _, ⟨c, d, e, h1, h2⟩, v, hv => by
    rw [e, List.mem_append] at hv
    rcases hv with hv | hv
    · exact ICs.ones h1 v hv
    · exact ICs.ones h2 v hv
theorem pack_cs {w : World} {t : T} {cs : List Value} {x : t.den} (h : ICs ρ U w t cs x) : (pack t cs).cells = cs.toArray := by
  cases hp : t.isPair with
  | true => rw [pack_agg hp]; rfl
  | false =>
    obtain ⟨v, rfl, h2, _⟩ := ICs.one hp h
    cases t <;> simp [T.isPair] at hp <;> simpa [pack] using h2
theorem ICs.sub {w : World} (u : T) : ∀ {t : T} {cs : List Value} {x : t.den} {o : Nat} {y : u.den}, ICs ρ U w t cs x → T.sub u t o x = some y → ICs ρ U w u ((cs.drop o).take u.size) y ∧ o + u.size ≤ t.size
  | .int p, cs, x, o, y, h, e => by
    have hl := ICs.length h
    unfold T.sub at e
    split at e
    · rename_i hh; obtain ⟨rfl, rfl⟩ := hh; cases e; exact ⟨by rw [List.drop_zero, ← hl, List.take_length]; exact h, by omega⟩
    · cases e
  | .bool, cs, x, o, y, h, e => by
    have hl := ICs.length h
    unfold T.sub at e
    split at e
    · rename_i hh; obtain ⟨rfl, rfl⟩ := hh; cases e; exact ⟨by rw [List.drop_zero, ← hl, List.take_length]; exact h, by omega⟩
    · cases e
  | .flt, cs, x, o, y, h, e => by
    have hl := ICs.length h
    unfold T.sub at e
    split at e
    · rename_i hh; obtain ⟨rfl, rfl⟩ := hh; cases e; exact ⟨by rw [List.drop_zero, ← hl, List.take_length]; exact h, by omega⟩
    · cases e
  | .list t, cs, x, o, y, h, e => by
    have hl := ICs.length h
    unfold T.sub at e
    split at e
    · rename_i hh; obtain ⟨rfl, rfl⟩ := hh; cases e; exact ⟨by rw [List.drop_zero, ← hl, List.take_length]; exact h, by omega⟩
    · cases e
  | .obj n, cs, x, o, y, h, e => by
    have hl := ICs.length h
    unfold T.sub at e
    split at e
    · rename_i hh; obtain ⟨rfl, rfl⟩ := hh; cases e; exact ⟨by rw [List.drop_zero, ← hl, List.take_length]; exact h, by omega⟩
    · cases e
  | .ptr n, cs, x, o, y, h, e => by
    have hl := ICs.length h
    unfold T.sub at e
    split at e
    · rename_i hh; obtain ⟨rfl, rfl⟩ := hh; cases e; exact ⟨by rw [List.drop_zero, ← hl, List.take_length]; exact h, by omega⟩
    · cases e
  | .one t, cs, x, o, y, h, e => by
    have hl := ICs.length h
    unfold T.sub at e
    split at e
    · rename_i hh; obtain ⟨rfl, rfl⟩ := hh; cases e; exact ⟨by rw [List.drop_zero, ← hl, List.take_length]; exact h, by omega⟩
    · exact ICs.sub u (t := t) (cs := cs) (x := x) h e
  | .pair a b, cs, x, o, y, h, e => by
    have hl := ICs.length h
    unfold T.sub at e
    split at e
    · rename_i hh; obtain ⟨rfl, rfl⟩ := hh; cases e; exact ⟨by rw [List.drop_zero, ← hl, List.take_length]; exact h, by omega⟩
    · obtain ⟨c, d, rfl, h1, h2⟩ := h
      have l1 := ICs.length h1
      split at e
      · obtain ⟨k1, k2⟩ := ICs.sub u h1 e
        refine ⟨?_, by simp only [T.size]; omega⟩
        rw [List.drop_append_of_le_length (by omega), List.take_append_of_le_length (by rw [List.length_drop]; omega)]
        exact k1
      · rename_i hn
        obtain ⟨k1, k2⟩ := ICs.sub u h2 e
        refine ⟨?_, by simp only [T.size]; omega⟩
        rw [show o = c.length + (o - a.size) by omega, ← List.drop_drop, List.drop_left' rfl]
        exact k1
theorem ICs.upd {w : World} (u : T) {ds : List Value} {y : u.den} (hd : ICs ρ U w u ds y) : ∀ {t : T} {cs : List Value} {x z : t.den} {o : Nat}, ICs ρ U w t cs x → T.upd u y t o x = some z → ICs ρ U w t (cs.take o ++ ds ++ cs.drop (o + u.size)) z ∧ o + u.size ≤ t.size
  | .int p, cs, x, z, o, h, e => by
    have hl := ICs.length h
    unfold T.upd at e
    split at e
    · rename_i hh; obtain ⟨rfl, rfl⟩ := hh; cases e; exact ⟨by rw [List.take_zero, Nat.zero_add, ← hl, List.drop_length, List.nil_append, List.append_nil]; exact hd, by omega⟩
    · cases e
  | .bool, cs, x, z, o, h, e => by
    have hl := ICs.length h
    unfold T.upd at e
    split at e
    · rename_i hh; obtain ⟨rfl, rfl⟩ := hh; cases e; exact ⟨by rw [List.take_zero, Nat.zero_add, ← hl, List.drop_length, List.nil_append, List.append_nil]; exact hd, by omega⟩
    · cases e
  | .flt, cs, x, z, o, h, e => by
    have hl := ICs.length h
    unfold T.upd at e
    split at e
    · rename_i hh; obtain ⟨rfl, rfl⟩ := hh; cases e; exact ⟨by rw [List.take_zero, Nat.zero_add, ← hl, List.drop_length, List.nil_append, List.append_nil]; exact hd, by omega⟩
    · cases e
  | .list t, cs, x, z, o, h, e => by
    have hl := ICs.length h
    unfold T.upd at e
    split at e
    · rename_i hh; obtain ⟨rfl, rfl⟩ := hh; cases e; exact ⟨by rw [List.take_zero, Nat.zero_add, ← hl, List.drop_length, List.nil_append, List.append_nil]; exact hd, by omega⟩
    · cases e
  | .obj n, cs, x, z, o, h, e => by
    have hl := ICs.length h
    unfold T.upd at e
    split at e
    · rename_i hh; obtain ⟨rfl, rfl⟩ := hh; cases e; exact ⟨by rw [List.take_zero, Nat.zero_add, ← hl, List.drop_length, List.nil_append, List.append_nil]; exact hd, by omega⟩
    · cases e
  | .ptr n, cs, x, z, o, h, e => by
    have hl := ICs.length h
    unfold T.upd at e
    split at e
    · rename_i hh; obtain ⟨rfl, rfl⟩ := hh; cases e; exact ⟨by rw [List.take_zero, Nat.zero_add, ← hl, List.drop_length, List.nil_append, List.append_nil]; exact hd, by omega⟩
    · cases e
  | .one t, cs, x, z, o, h, e => by
    have hl := ICs.length h
    unfold T.upd at e
    split at e
    · rename_i hh; obtain ⟨rfl, rfl⟩ := hh; cases e; exact ⟨by rw [List.take_zero, Nat.zero_add, ← hl, List.drop_length, List.nil_append, List.append_nil]; exact hd, by omega⟩
    · exact ICs.upd u hd (t := t) (cs := cs) (x := x) h e
  | .pair a b, cs, x, z, o, h, e => by
    have hl := ICs.length h
    unfold T.upd at e
    split at e
    · rename_i hh; obtain ⟨rfl, rfl⟩ := hh; cases e; exact ⟨by rw [List.take_zero, Nat.zero_add, ← hl, List.drop_length, List.nil_append, List.append_nil]; exact hd, by omega⟩
    · obtain ⟨c, d, rfl, h1, h2⟩ := h
      have l1 := ICs.length h1
      split at e
      · obtain ⟨z1, hz1, rfl⟩ := Option.map_eq_some_iff.1 e
        obtain ⟨k1, k2⟩ := ICs.upd u hd h1 hz1
        refine ⟨⟨_, d, ?_, k1, h2⟩, by simp only [T.size]; omega⟩
        rw [List.take_append_of_le_length (by omega), List.drop_append_of_le_length (by omega)]
        simp only [List.append_assoc]
      · rename_i hn
        obtain ⟨z1, hz1, rfl⟩ := Option.map_eq_some_iff.1 e
        obtain ⟨k1, k2⟩ := ICs.upd u hd h2 hz1
        refine ⟨⟨c, _, ?_, h1, k1⟩, by simp only [T.size]; omega⟩
        have e1 : o = c.length + (o - a.size) := by omega
        rw [List.take_append, List.take_of_length_le (by omega), show o - c.length = o - a.size by omega, show o + u.size = c.length + (o - a.size + u.size) by omega, ← List.drop_drop, List.drop_left' rfl]
        simp only [List.append_assoc]
theorem IRd.int {k : IntKind} {v : Value} {x : Int} (h : IRd ρ U w (.int k) v x) : v = .int k x := by
  obtain ⟨cs, rfl, h⟩ := h
  have := h
  simp only [ICs] at this
  subst this
  rfl
theorem IRd.bool {v : Value} {x : Bool} (h : IRd ρ U w .bool v x) : v = .bool x := by
  obtain ⟨cs, rfl, h⟩ := h
  have := h
  simp only [ICs] at this
  subst this
  rfl
theorem IRd.flt {v : Value} {x : Nat} (h : IRd ρ U w .flt v x) : v = .float .f64 x := by
  obtain ⟨cs, rfl, h⟩ := h
  have := h
  simp only [ICs] at this
  subst this
  rfl
theorem IRd.obj {n : Nat} {v : Value} {x : Option (OT n)} (h : IRd ρ U w (.obj n) v x) : (x = none ∧ v = .pointer none) ∨ (∃ y a, x = some y ∧ v = .pointer (some a)) := by
  obtain ⟨cs, rfl, h⟩ := h
  obtain ⟨v, rfl, h2⟩ := h
  cases x with
  | none => exact .inl ⟨rfl, h2⟩
  | some y =>
    obtain ⟨⟨a, h3⟩, _⟩ := h2
    exact .inr ⟨y, a, rfl, h3⟩
theorem IRd.ptr {t : T} {v : Value} {x : Option t.den} (h : IRd ρ U w (.ptr t) v x) : (x = none ∧ v = .pointer none) ∨ ∃ y b off ds, x = some y ∧ v = .pointer (some ⟨b, off, none⟩) ∧ ICs ρ U w t ds y ∧ ∀ w', Ag U w w' → ∀ j, j < t.size → w'.cell? ⟨b, off + j, none⟩ = ds[j]? := by
  obtain ⟨cs, rfl, h⟩ := h
  obtain ⟨v, rfl, h2⟩ := h
  cases x with
  | none => exact .inl ⟨rfl, h2⟩
  | some y =>
    obtain ⟨b, off, ds, h3, h4, h5⟩ := h2
    exact .inr ⟨y, b, off, ds, rfl, h3, ICs.tr Tr.less h4, fun w' hw => h5 w' (hw.mono (fun _ _ h => .inl h))⟩
theorem IRd.list {t : T} {v : Value} {xs : List t.den} (h : IRd ρ U w (.list t) v xs) : ∃ A c, v = .slice A xs.length c ∧ xs.length ≤ maxLen := by
  obtain ⟨cs, rfl, h⟩ := h
  obtain ⟨A, c, ds, rfl, h2, _⟩ := h
  exact ⟨A, c, rfl, h2⟩
theorem ira_int (ρ : Obs) (U : Nat → Prop) (w : World) (hd : Nat → Value) (k : IntKind) (x : Int) : RA ρ U w hd (.v (.int k) x) (.int k x) := ⟨_, rfl, rfl⟩
theorem ira_bool (ρ : Obs) (U : Nat → Prop) (w : World) (hd : Nat → Value) (x : Bool) : RA ρ U w hd (.v .bool x) (.bool x) := ⟨_, rfl, rfl⟩
theorem ira_flt (ρ : Obs) (U : Nat → Prop) (w : World) (hd : Nat → Value) (x : Nat) : RA ρ U w hd (.v .flt x) (.float .f64 x) := ⟨_, rfl, rfl⟩
/-- What an operation that looks at no memory leaves. -/
def Yes {R : Type} (P : Program) (ρ : Obs) (U : Nat → Prop) (w : World) (hd : Nat → Value) (n : Nat) (k : A → Option R) (r : R) (s : Sem Value) : Prop := ∃ z v, k z = some r ∧ RA ρ U w hd z v ∧ (∀ j ∈ z.refs, j < n) ∧ ∀ w', s.run P w' = .ok v w'
variable {R : Type} {n : Nat} {k : A → Option R} {r : R} {xt0 : TypeId}
theorem bin_int {op : BinOp} {p q : IntKind} {a b : Int} (h : intZ op p a q b k = some r) (xt : TypeId) (x y : Operand) : Yes P ρ U w hd n k r (do eqGuard op xt x y (.int p a) (.int q b); binOp op xt (.int p a) (.int q b)) := by
  unfold intZ at h
  cases op <;> simp only [] at h
  case add | sub | mul | and | or | xor | andNot =>
    split at h
    · rename_i e
      subst e
      refine ⟨_, _, h, ira_int _ _ _ _ _ _, by simp [A.refs], fun w' => ?_⟩
      simp [eqGuard, binOp, Op.intArith, Op.intBits, bitsZ_eq, bitsC, go_sem]
    · cases h
  case quo | rem =>
    split at h
    · rename_i e
      subst e
      split at h
      · cases h
      · rename_i hb
        refine ⟨_, _, h, ira_int _ _ _ _ _ _, by simp [A.refs], fun w' => ?_⟩
        simp [eqGuard, binOp, Op.intDiv, hb, go_sem]
    · cases h
  case eql | neq | lss | leq | gtr | geq =>
    split at h
    · rename_i e
      subst e
      refine ⟨_, _, h, ira_bool _ _ _ _ _, by simp [A.refs], fun w' => ?_⟩
      simp [eqGuard, binOp, Op.intCmp, go_sem]
    · cases h
  case shl | shr =>
    split at h
    · rename_i hb
      have hb' : ¬ b < 0 := by omega
      refine ⟨_, _, h, ira_int _ _ _ _ _ _, by simp [A.refs], fun w' => ?_⟩
      simp [eqGuard, binOp, Op.shift, hb', go_sem]
    · cases h
theorem bin_flt {op : BinOp} {a b : Nat} (h : fltZ op a b k = some r) (xt : TypeId) (x y : Operand) : Yes P ρ U w hd n k r (do eqGuard op xt x y (.float .f64 a) (.float .f64 b); binOp op xt (.float .f64 a) (.float .f64 b)) := by
  unfold fltZ at h
  cases op <;> simp only [] at h
  case quo =>
    split at h
    · rename_i z hz
      refine ⟨_, _, h, ira_flt _ _ _ _ _, by simp [A.refs], fun w' => ?_⟩
      simp [eqGuard, binOp, Op.floatArith, hz, go_sem]
    · cases h
  case eql | neq | lss | geq =>
    refine ⟨_, _, h, ira_bool _ _ _ _ _, by simp [A.refs], fun w' => ?_⟩
    simp [eqGuard, binOp, Op.floatCmp, go_sem]
  all_goals cases h
theorem eq_yes {op : BinOp} {b : Bool} (h : eqZ op b k = some r) {xt : TypeId} {x y : Operand} {u v : Value} (hb : ∀ w', (Op.equal xt u v).run P w' = .ok b w') (hg : ∀ w', (eqGuard op xt x y u v).run P w' = .ok () w')
    (h1 : op = .eql → binOp op xt u v = do pure (.bool (← Op.equal xt u v))) (h2 : op = .neq → binOp op xt u v = do pure (.bool (!(← Op.equal xt u v)))) : Yes P ρ U w hd n k r (do eqGuard op xt x y u v; binOp op xt u v) := by
  unfold eqZ at h
  cases op <;> simp only [] at h
  case eql =>
    refine ⟨_, _, h, ira_bool _ _ _ _ _, by simp [A.refs], fun w' => ?_⟩
    simp [h1 rfl, hb, hg, go_sem]
  case neq =>
    refine ⟨_, _, h, ira_bool _ _ _ _ _, by simp [A.refs], fun w' => ?_⟩
    simp [h2 rfl, hb, hg, go_sem]
  all_goals cases h
theorem eq_bool {d : Nat} {xt : TypeId} (h3 : P.underlying xt = some .bool) (a b : Bool) (w' : World) : (Op.equalIn (d + 1) xt (.bool a) (.bool b)).run P w' = .ok (a == b) w' := by
  simp [Op.equalIn, underlying, h3, go_sem]
theorem eq_ptr_nil {d : Nat} {xt e : TypeId} (h3 : P.underlying xt = some (.pointer e)) (a : Option Addr) (w' : World) : (Op.equalIn (d + 1) xt (.pointer a) (.pointer none)).run P w' = .ok a.isNone w' := by
  cases a <;> simp [Op.equalIn, underlying, h3, go_sem]
theorem eq_ptr (h : ∃ e, P.underlying xt0 = some (.pointer e)) {op : BinOp} {b : Bool} {a : Option Addr} (hb : a.isNone = b) (h1 : eqZ op b k = some r) (x y : Operand) : Yes P ρ U w hd n k r (do eqGuard op xt0 x y (.pointer a) (.pointer none); binOp op xt0 (.pointer a) (.pointer none)) := by
  obtain ⟨e, h3⟩ := h
  refine eq_yes h1 (fun w' => ?_) (fun w' => ?_) (fun e => by subst e; rfl) (fun e => by subst e; rfl)
  · rw [← hb]
    exact eq_ptr_nil (d := 9999) h3 a w'
  · unfold eqGuard
    split <;> simp [go_sem]
theorem bin_yes (ok : TabOk P tab) {op : BinOp} {xt : TypeId} {x y : A} {u v : Value} (h : binZ tab op xt x y k = some r) (hx : RA ρ U w hd x u) (hy : RA ρ U w hd y v) (ox oy : Operand) : Yes P ρ U w hd n k r (do eqGuard op xt ox oy u v; binOp op xt u v) := by
  unfold binZ at h
  split at h
  · have e1 := IRd.int hx
    have e2 := IRd.int hy
    subst e1 e2
    exact bin_int h xt ox oy
  · have e1 := IRd.bool hx
    have e2 := IRd.bool hy
    subst e1 e2
    split at h
    · rename_i hf
      have h2 := ok.und _ _ hf
      simp only [UndOk] at h2
      have h3 : P.underlying xt = some .bool := by
        rcases h2 with ⟨_, h3, _⟩ | ⟨_, h3⟩ | ⟨h3, _⟩
        · cases h3
        · exact h3
        · cases h3
      refine eq_yes h (fun w' => ?_) (fun w' => ?_) (fun e => by subst e; rfl) (fun e => by subst e; rfl)
      · exact eq_bool (d := 9999) h3 _ _ w'
      · unfold eqGuard
        split <;> simp [go_sem]
    · cases h
  · have e1 := IRd.flt hx
    have e2 := IRd.flt hy
    subst e1 e2
    exact bin_flt h xt ox oy
  · have e2 : v = .pointer none := hy
    subst e2
    split at h
    · rename_i hf
      obtain ⟨_, hp⟩ := ok.und _ _ hf
      rcases IRd.obj hx with ⟨rfl, rfl⟩ | ⟨y, a, rfl, rfl⟩
      · exact eq_ptr hp rfl h ox oy
      · exact eq_ptr hp rfl h ox oy
    · cases h
  · have e2 : v = .pointer none := hy
    subst e2
    split at h
    · rename_i hf
      obtain ⟨_, hp⟩ := ok.und _ _ hf
      rcases IRd.ptr hx with ⟨rfl, rfl⟩ | ⟨y, b, off, ds, rfl, rfl, _, _⟩
      · exact eq_ptr hp rfl h ox oy
      · exact eq_ptr hp rfl h ox oy
    · cases h
  · have e1 : u = .pointer none := hx
    have e2 : v = .pointer none := hy
    subst e1 e2
    split at h
    · rename_i hf
      obtain ⟨_, hp⟩ := ok.und _ _ hf
      exact eq_ptr hp rfl h ox oy
    · cases h
  · have e2 : v = .pointer none := hy
    obtain ⟨b, _, rfl⟩ := hx
    subst e2
    split at h
    · rename_i hf
      obtain ⟨_, hp⟩ := ok.und _ _ hf
      exact eq_ptr hp rfl h ox oy
    · cases h
  · cases h
theorem un_yes {op : UnOp} {x : A} {u : Value} (h : unZ op x k = some r) (hx : RA ρ U w hd x u) : Yes P ρ U w hd n k r (Op.unary op u) := by
  unfold unZ at h
  split at h
  · have e1 := IRd.int hx
    subst e1
    refine ⟨_, _, h, ira_int _ _ _ _ _ _, by simp [A.refs], fun w' => ?_⟩
    simp [Op.unary, Op.intArith, go_sem]
  · have e1 := IRd.bool hx
    subst e1
    refine ⟨_, _, h, ira_bool _ _ _ _ _, by simp [A.refs], fun w' => ?_⟩
    simp [Op.unary, go_sem]
  · cases h
theorem und_some (ok : TabOk P tab) {id : TypeId} {i : TI} (h : tab.find id = some i) : ∃ d, P.underlying id = some d := by
  have h2 := ok.und id i h
  cases hu : i.u with
  | sc => rw [hu] at h2; rcases h2 with ⟨_, _, h⟩ | ⟨_, h⟩ | ⟨_, h⟩ <;> exact ⟨_, h⟩
  | ptr => rw [hu] at h2; obtain ⟨_, _, h⟩ := h2; exact ⟨_, h⟩
  | sl e => rw [hu] at h2; exact ⟨_, h2.1⟩
  | st fs => rw [hu] at h2; obtain ⟨_, _, h, _⟩ := h2; exact ⟨_, h⟩
theorem conv_yes (ok : TabOk P tab) {src dst : TypeId} {x : A} {u : Value} (h : convZ tab src dst x k = some r) (hx : RA ρ U w hd x u) : Yes P ρ U w hd n k r (convert src dst u) := by
  unfold convZ at h
  split at h
  · rename_i hf hg
    have e1 := IRd.int hx
    subst e1
    obtain ⟨d, hd1⟩ := und_some ok hf
    have h2 := ok.und _ _ hg
    simp only [UndOk] at h2
    rcases h2 with ⟨q, e3, h4⟩ | ⟨e3, _⟩ | ⟨e3, _⟩
    · cases e3
      refine ⟨_, _, h, ira_int _ _ _ _ _ _, by simp [A.refs], fun w' => ?_⟩
      simp [convert, underlying, hd1, h4, Conv.intToInt, go_sem]
    · cases e3
    · cases e3
  · rename_i hf hg
    have e1 := IRd.int hx
    subst e1
    obtain ⟨d, hd1⟩ := und_some ok hf
    have h2 := ok.und _ _ hg
    simp only [UndOk] at h2
    have h3 : P.underlying dst = some (.float .f64) := by
      rcases h2 with ⟨_, h3, h4⟩ | ⟨h3, _⟩ | ⟨_, h3⟩
      · cases h3
      · cases h3
      · exact h3
    refine ⟨_, _, h, ira_flt _ _ _ _ _, by simp [A.refs], fun w' => ?_⟩
    simp [convert, underlying, hd1, h3, Conv.intToFloat, go_sem]
  · cases h
theorem fld_ok (ok : TabOk P tab) {s : TypeId} {f o : Nat} {u : T} (h : fldZ tab s f = some (o, u)) : ∃ (fields : Array Field) (fd : Field) (j : TI), P.underlying s = some (.struct fields) ∧ fields[f]? = some fd ∧ fd.offset = o ∧ tab.find fd.type = some j ∧ j.t = u := by
  unfold fldZ at h
  split at h
  · rename_i fs _ hf
    obtain ⟨_, fields, h1, _, h2⟩ := ok.und _ _ hf
    split at h
    · rename_i o' ft hat
      split at h
      · rename_i hlt
        split at h
        · rename_i j hj
          cases h
          obtain ⟨fd, _, h3, h4, h5, _⟩ := h2 f hlt
          rw [hat] at h4 h5
          exact ⟨fields, fd, j, h1, h3, h4, by rw [h5]; exact hj, rfl⟩
        · cases h
      · cases h
  · cases h
theorem pack_one {t : T} (hp : t.isPair = false) (v : Value) : pack t [v] = v := by cases t <;> simp [T.isPair] at hp <;> rfl
theorem part_run (ok : TabOk P tab) {id : TypeId} {i : TI} (h : tab.find id = some i) {cs : List Value} {y : i.t.den} (o : Nat) (hy : ICs ρ U w i.t ((cs.drop o).take i.t.size) y) (w' : World) : (part id cs.toArray o).run P w' = .ok (pack i.t ((cs.drop o).take i.t.size)) w' := by
  have h1 := isAgg_run ok h w'
  have h2 := sizeOf_run ok h w'
  unfold part
  simp [go_sem]
  rw [h1]
  cases hp : i.t.isPair with
  | true =>
    simp [go_sem]
    rw [h2]
    simp [go_sem, pack_agg hp]
  | false =>
    have h1 := T.size_one _ hp
    rw [h1] at hy ⊢
    obtain ⟨v, hv, _⟩ := ICs.one hp hy
    have hc : cs[o]? = some v := by
      have : ((cs.drop o).take 1)[0]? = some v := by rw [hv]; rfl
      simpa [List.getElem?_take, List.getElem?_drop] using this
    rw [hv, pack_one hp]
    simp [hc, go_sem]
theorem field_yes (ok : TabOk P tab) {s : TypeId} {x : A} {u : Value} {f : Nat} (h : fieldZ tab s x f k = some r) (hx : RA ρ U w hd x u) : Yes P ρ U w hd n k r (Instr.field s u f) := by
  unfold fieldZ at h
  split at h
  · rename_i o u' a b y hf
    split at h
    · rename_i z hz
      obtain ⟨fields, fd, j, h1, h2, rfl, h4, rfl⟩ := fld_ok ok hf
      obtain ⟨cs, rfl, hc⟩ := hx
      obtain ⟨k1, k2⟩ := ICs.sub _ hc hz
      refine ⟨_, _, h, ⟨_, rfl, k1⟩, by simp [A.refs], fun w' => ?_⟩
      have hpr := part_run ok h4 fd.offset k1 w'
      generalize pack j.t (List.take j.t.size (List.drop fd.offset cs)) = rv at hpr ⊢
      simpa [Instr.field, pack, asAgg, underlying, h1, h2, go_sem] using hpr
    · cases h
  · cases h
/-- Where a field lies. -/
theorem place_run (ok : TabOk P tab) {fd : Field} {j : TI} (h : tab.find fd.type = some j) (b o : Nat) (w' : World) : (fieldPlace ⟨b, o, none⟩ fd).run P w' = .ok ⟨b, o + fd.offset, none⟩ w' := by
  have h2 := sizeOf_run ok h w'
  have h3 := T.size_pos j.t
  unfold fieldPlace
  simp [go_sem]
  rw [h2]
  have h4 : ¬ j.t.size = 0 := by omega
  simp [go_sem, h4, Addr.add]
theorem fieldAddr_yes (ok : TabOk P tab) {s : TypeId} {x : A} {u : Value} {f : Nat} (h : fieldAddrZ tab s x f k = some r) (hx : RA ρ U w hd x u) (hr : ∀ j ∈ x.refs, j < n) : Yes P ρ U w hd n k r (Instr.fieldAt s u f) := by
  have go : ∀ {fields : Array Field} {fd : Field} {j : TI} {b o : Nat}, P.underlying s = some (.struct fields) → fields[f]? = some fd → tab.find fd.type = some j → ∀ w', (Instr.fieldAt s (.pointer (some ⟨b, o, none⟩)) f).run P w' = .ok (.pointer (some ⟨b, o + fd.offset, none⟩)) w' := by
    intro fields fd j b o h1 h2 h4 w'
    have h5 := sizeOf_run ok h4 w'
    have h6 := T.size_pos j.t
    have h7 : ¬ j.t.size = 0 := by omega
    simp [Instr.fieldAt, underlying, h1, h2, Instr.sureAddr, go_sem]
    rw [h5]
    simp [go_sem, h7]
  unfold fieldAddrZ at h
  split at h
  · rename_i o u' t y hf
    split at h
    · rename_i z hz
      obtain ⟨fields, fd, j, h1, h2, rfl, h4, rfl⟩ := fld_ok ok hf
      obtain ⟨b, off, cs, rfl, hc, hcell⟩ := hx
      obtain ⟨k1, k2⟩ := ICs.sub _ hc hz
      refine ⟨_, _, h, ⟨b, off + fd.offset, _, rfl, k1, fun w' hw' i hi => ?_⟩, by simp [A.refs], go h1 h2 h4⟩
      rw [List.getElem?_take, if_pos hi, List.getElem?_drop, ← hcell w' hw' (fd.offset + i) (by omega), Nat.add_assoc]
    · cases h
  · rename_i o u' t y hf
    split at h
    · rename_i hs
      split at h
      · rename_i z hz
        obtain ⟨fields, fd, j, h1, h2, rfl, h4, rfl⟩ := fld_ok ok hf
        rcases IRd.ptr hx with ⟨rfl, _⟩ | ⟨y, b, off, cs, rfl, rfl, hc, hcell⟩
        · cases hs
        · obtain ⟨k1, k2⟩ := ICs.sub _ hc hz
          refine ⟨_, _, h, ⟨b, off + fd.offset, _, rfl, k1, fun w' hw' i hi => ?_⟩, by simp [A.refs], go h1 h2 h4⟩
          rw [List.getElem?_take, if_pos hi, List.getElem?_drop, ← hcell w' hw' (fd.offset + i) (by omega), Nat.add_assoc]
      · cases h
    · cases h
  · rename_i o u' i j c s' t hf
    obtain ⟨fields, fd, j', h1, h2, rfl, h4, rfl⟩ := fld_ok ok hf
    obtain ⟨b, l, c', e1, e2, rfl⟩ := hx
    exact ⟨_, _, h, ⟨b, l, c', e1, e2, by rw [Nat.add_assoc]⟩, by simpa [A.refs] using hr, go h1 h2 h4⟩
  · rename_i o u' i c hf
    obtain ⟨fields, fd, j', h1, h2, rfl, h4, rfl⟩ := fld_ok ok hf
    obtain ⟨b, e1, rfl⟩ := hx
    exact ⟨_, _, h, ⟨b, e1, rfl⟩, by simpa [A.refs] using hr, go h1 h2 h4⟩
  · cases h
theorem elem_ok (ok : TabOk P tab) {t e : TypeId} {i : TI} (h : elemZ tab t = some (e, i)) : P.underlying t = some (.slice e) ∧ tab.find e = some i := by
  unfold elemZ at h
  split at h
  · rename_i hf
    obtain ⟨h1, j, h2, h3⟩ := ok.und _ _ hf
    split at h
    · rename_i i' hi
      cases h
      exact ⟨h1, hi⟩
    · cases h
  · cases h
theorem index_run (ok : TabOk P tab) {t e : TypeId} {i : TI} (h : elemZ tab t = some (e, i)) {b off len c : Nat} {p : IntKind} {m : Int} (h0 : 0 ≤ m) (h1 : m < len) (w' : World) :
    (Instr.indexAt t (.slice (some ⟨b, off, none⟩) len c) (.int p m)).run P w' = .ok (.pointer (some ⟨b, off + m.toNat * i.t.size, none⟩)) w' := by
  obtain ⟨h2, h3⟩ := elem_ok ok h
  have h4 := sizeOf_run ok h3 w'
  simp [Instr.indexAt, underlying, h2, asIntOf, go_sem, h0, h1]
  rw [h4]
  simp [go_sem, Addr.add]
/-- The elements of a list that is known for ever. -/
theorem ICs.at_ {t : T} {cs : List Value} {xs : List t.den} (h : ICs ρ U w (.list t) cs xs) {m : Nat} (hm : m < xs.length) : ∃ b off c ds, cs = [.slice (some ⟨b, off, none⟩) xs.length c] ∧ ICs ρ U w t ds (xs.getD m t.dflt) ∧ ∀ w', Ag U w w' → ∀ j, j < t.size → w'.cell? ⟨b, off + m * t.size + j, none⟩ = ds[j]? := by
  obtain ⟨A, c, ds, e1, h2, _, h3, h4⟩ := h
  obtain ⟨b, off, rfl, h5⟩ := h4 (by omega)
  have hget : xs.getD m t.dflt = xs[m] := by rw [List.getD_eq_getElem?_getD, List.getElem?_eq_getElem hm]; rfl
  have hl : ∀ c x, ICs ρ U w t c x → c.length = t.size := fun c x q => ICs.length q
  have hlen := Els.length hl h3
  have hle : m * t.size + t.size ≤ xs.length * t.size := by rw [← Nat.succ_mul]; exact Nat.mul_le_mul_right _ hm
  refine ⟨b, off, c, (ds.drop (m * t.size)).take t.size, e1, ?_, fun w' hw' j hj => ?_⟩
  · rw [hget]
    exact Els.get hl h3 m hm
  · rw [List.getElem?_take, if_pos hj, List.getElem?_drop, ← h5 w' hw' (m * t.size + j) (by omega), Nat.add_assoc]
/-- The header of a row of n elements. -/
def Hdr (v : Value) (n : Nat) : Prop := (v = .slice none 0 0 ∧ n = 0) ∨ ∃ g cap, v = .slice (some ⟨g, 0, none⟩) n cap ∧ n ≤ cap
theorem own_hdr {B sz m : Nat} {e : TypeId} {v : Value} {cs : List Value} (h : w.ownsRow B e sz v m cs) : Hdr v m ∧ m ≤ maxLen := by
  obtain ⟨_, ⟨rfl, rfl⟩ | ⟨g, cap, cur, rfl, _, _, h1, h2, _⟩⟩ := h
  · exact ⟨.inl ⟨rfl, rfl⟩, Nat.zero_le _⟩
  · exact ⟨.inr ⟨g, cap, rfl, h1⟩, Nat.le_trans h1 h2⟩
def Hdrs (ob : List Ob) (hd : Nat → Value) : Prop := ∀ i e t xs, atn .gone ob i = .row e t xs → Hdr (hd i) xs.length
theorem idx_le {m : Int} {n : Nat} (h0 : 0 ≤ m) (h1 : m ≤ n) : m.toNat ≤ n := by omega
theorem idx_le2 {l h : Int} {n c : Nat} (h0 : 0 ≤ l) (h1 : l ≤ h) (h2 : h ≤ n) (h3 : n ≤ c) : l.toNat ≤ h.toNat ∧ h.toNat ≤ n ∧ 0 ≤ h ∧ h ≤ c := by omega
theorem idx_le2' {l h : Int} (h0 : 0 ≤ l) (h1 : l ≤ h) : l ≤ (h.toNat : Int) := by omega
theorem idx_le3 {l h : Int} (h0 : 0 ≤ l) (h1 : l ≤ h) : l.toNat ≤ h.toNat := by omega
theorem le_cast {l : Int} {n : Nat} (h0 : 0 ≤ l) (h1 : l.toNat ≤ n) : l ≤ (n : Int) := by omega
theorem Hdr.form {v : Value} {n : Nat} (h : Hdr v n) : ∃ a c, v = .slice a n c ∧ n ≤ c := by
  rcases h with ⟨rfl, rfl⟩ | ⟨g, c, rfl, h⟩
  · exact ⟨none, 0, rfl, Nat.le_refl _⟩
  · exact ⟨_, c, rfl, h⟩
theorem idx_lt {m : Int} {n : Nat} (h0 : 0 ≤ m) (h1 : m < n) : m.toNat < n := by omega
theorem indexAddr_yes (ok : TabOk P tab) {ob : List Ob} {t : TypeId} {x i : A} {u v : Value} (h : indexAddrZ tab ob t x i k = some r) (hx : RA ρ U w hd x u) (hi : RA ρ U w hd i v) (hh : Hdrs ob hd) (hr : ∀ j ∈ x.refs, j < n) : Yes P ρ U w hd n k r (Instr.indexAt t u v) := by
  unfold indexAddrZ at h
  split at h
  · rename_i e' i' u' xs p m he
    split at h
    · rename_i hu
      subst hu
      split at h
      · rename_i h0
        replace h0 : (0 : Int) ≤ m := h0
        split at h
        · rename_i h1
          replace h1 : (m : Int) < (xs.length : Int) := h1
          obtain ⟨cs, rfl, hc⟩ := hx
          have e2 := IRd.int hi
          subst e2
          obtain ⟨b, off, c, ds, rfl, k1, k2⟩ := ICs.at_ hc (m := m.toNat) (idx_lt h0 h1)
          refine ⟨_, _, h, ⟨b, _, ds, rfl, k1, k2⟩, by simp [A.refs], fun w' => ?_⟩
          exact index_run ok he h0 h1 w'
        · cases h
      · cases h
    · cases h
  · rename_i e' i' m' p m he
    split at h
    · rename_i e2 u' xs hat
      split at h
      · rename_i hu
        subst hu
        split at h
        · rename_i h0
          replace h0 : (0 : Int) ≤ m := h0
          split at h
          · rename_i h1
            replace h1 : (m : Int) < ((xs.length : Nat) : Int) := h1
            have e2 := IRd.int hi
            subst e2
            have e3 : u = hd m' := hx
            subst e3
            rcases hh _ _ _ _ hat with ⟨_, h2⟩ | ⟨g, cap, h2, h3⟩
            · have := idx_lt h0 h1; omega
            · refine ⟨_, _, h, ⟨g, _, cap, h2, idx_lt h0 h1, rfl⟩, by simpa [A.refs] using hr, fun w' => ?_⟩
              rw [h2, index_run ok he h0 h1 w', Nat.zero_add, Nat.add_zero]
          · cases h
        · cases h
      · cases h
    · cases h
  · rename_i e' i' m' c' fl p m he
    split at h
    · rename_i e2 u' xs hat
      split at h
      · rename_i hu
        subst hu
        split at h
        · rename_i h0
          replace h0 : (0 : Int) ≤ m := h0
          split at h
          · rename_i h1
            replace h1 : (m : Int) < ((c' : Nat) : Int) := h1
            have e2 := IRd.int hi
            subst e2
            obtain ⟨a, l, c, c'', e3, e4, rfl, _, _⟩ := hx
            rcases hh _ _ _ _ hat with ⟨h2, _⟩ | ⟨g, cap, h2, h3⟩
            · rw [e3] at h2; injection h2 with _ q _; have := idx_lt h0 h1; omega
            · rw [e3] at h2
              injection h2 with q1 q2 q3
              subst q1
              refine ⟨_, _, h, ⟨g, l, c, e3, by have := idx_lt h0 h1; omega, rfl⟩, by simpa [A.refs] using hr, fun w' => ?_⟩
              rw [index_run ok he h0 h1 w', Nat.zero_add, Nat.add_zero]
          · cases h
        · cases h
      · cases h
    · cases h
  · cases h
theorem slice_all (ok : TabOk P tab) {t e : TypeId} {i : TI} (h : elemZ tab t = some (e, i)) (A : Option Addr) (len c : Nat) {lo hi : Option (IntKind × Int)} (mx : Option (IntKind × Int)) (l hh m : Nat)
    (hm : match mx with | some (p, z) => 0 ≤ z ∧ z ≤ c ∧ m = z.toNat ∧ hi.isSome = true | none => m = c)
    (h1 : match hi with | some (p, z) => 0 ≤ z ∧ z ≤ m ∧ hh = z.toNat | none => hh = len) (h2 : match lo with | some (p, z) => 0 ≤ z ∧ z ≤ hh ∧ l = z.toNat | none => l = 0) (w' : World) :
    (Instr.sliceAt t (.slice A len c) (lo.map fun q => .int q.1 q.2) (hi.map fun q => .int q.1 q.2) (mx.map fun q => .int q.1 q.2)).run P w' = .ok (.slice (if m = l then A else A.map (·.add (l * i.t.size))) (hh - l) (m - l)) w' := by
  obtain ⟨h3, h4⟩ := elem_ok ok h
  have h5 := sizeOf_run ok h4 w'
  cases mx with
  | none =>
    simp only at hm
    subst hm
    cases hi with
    | none =>
      simp only at h1
      subst h1
      cases lo with
      | none => simp only at h2; subst h2; simp [Instr.sliceAt, Instr.slice, underlying, h3, Instr.sliceBounds, go_sem]; rw [h5]; simp [go_sem]
      | some q =>
        obtain ⟨q1, q2, rfl⟩ := h2
        simp [Instr.sliceAt, Instr.slice, underlying, h3, Instr.sliceBounds, Instr.sliceBound, asIntOf, go_sem, q1, q2]; rw [h5]; simp [go_sem]
    | some q' =>
      obtain ⟨p1, p2, rfl⟩ := h1
      cases lo with
      | none => simp only at h2; subst h2; simp [Instr.sliceAt, Instr.slice, underlying, h3, Instr.sliceBounds, Instr.sliceBound, asIntOf, go_sem, p1, p2]; rw [h5]; simp [go_sem]
      | some q =>
        obtain ⟨q1, q2, rfl⟩ := h2
        have q2' : q.2 ≤ q'.2 := by omega
        have z1 : max q'.2 0 = q'.2 := by omega
        simp [Instr.sliceAt, Instr.slice, underlying, h3, Instr.sliceBounds, Instr.sliceBound, asIntOf, go_sem, p1, p2, q1, z1, q2', Int.not_lt.2 q2']; rw [h5]; simp [go_sem]
  | some q0 =>
    obtain ⟨o1, o2, rfl, o3⟩ := hm
    cases hi with
    | none => simp at o3
    | some q' =>
      obtain ⟨p1, p2, rfl⟩ := h1
      have p2' : q'.2 ≤ q0.2 := by omega
      cases lo with
      | none =>
        simp only at h2
        subst h2
        have z2 : max q0.2 0 = q0.2 := by omega
        simp [Instr.sliceAt, Instr.slice, underlying, h3, Instr.sliceBounds, Instr.sliceBound, asIntOf, go_sem, o1, o2, p1, z2, p2', Int.not_lt.2 p2']; rw [h5]; simp [go_sem]
      | some q =>
        obtain ⟨q1, q2, rfl⟩ := h2
        have q2' : q.2 ≤ q'.2 := by omega
        have z1 : max q'.2 0 = q'.2 := by omega
        have z2 : max q0.2 0 = q0.2 := by omega
        simp [Instr.sliceAt, Instr.slice, underlying, h3, Instr.sliceBounds, Instr.sliceBound, asIntOf, go_sem, o1, o2, p1, z1, z2, p2', q1, q2', Int.not_lt.2 q2', Int.not_lt.2 p2']; rw [h5]; simp [go_sem]
/-- A part of a list that is known for ever. -/
theorem cut_list {t : T} {A : Option Addr} {c l hh : Nat} {xs : List t.den} (h : ICs ρ U w (.list t) [.slice A xs.length c] xs) (hl : l ≤ hh) (hn : hh ≤ xs.length) :
    ICs ρ U w (.list t) [.slice (if c = l then A else A.map (·.add (l * t.size))) (hh - l) (c - l)] ((xs.take hh).drop l) := by
  obtain ⟨A', c', ds, e1, h2, hc, h3, h4⟩ := h
  injection e1 with e1
  injection e1 with e1 _ e2
  subst e1 e2
  have hz : ∀ c x, ICs ρ U w t c x → c.length = t.size := fun c x q => ICs.length q
  have hlen := Els.length hz h3
  have h5 : ((xs.take hh).drop l).length = hh - l := by rw [List.length_drop, List.length_take]; omega
  have hsz : hh * t.size ≤ xs.length * t.size := Nat.mul_le_mul_right _ hn
  have hsl : l * t.size ≤ hh * t.size := Nat.mul_le_mul_right _ hl
  refine ⟨_, _, (ds.take (hh * t.size)).drop (l * t.size), by rw [h5], by rw [h5]; omega, by rw [h5]; omega, Els.drop hz (Els.take hz h3 hh) l, fun hp => ?_⟩
  rw [h5] at hp
  obtain ⟨b, off, rfl, h6⟩ := h4 (by omega)
  refine ⟨b, off + l * t.size, ?_, fun w' hw' j hj => ?_⟩
  · rw [if_neg (by omega)]
    simp [Addr.add]
  · rw [List.length_drop, List.length_take] at hj
    rw [List.getElem?_drop, List.getElem?_take, if_pos (by omega), ← h6 w' hw' (l * t.size + j) (by omega), Nat.add_assoc]
theorem slice_yes (ok : TabOk P tab) {ob : List Ob} {t : TypeId} {x : A} {lo hi mx : Option A} {u : Value} {vlo vhi vmx : Option Value} (h : sliceZ tab ob t x lo hi mx k = some r) (hx : RA ρ U w hd x u)
    (hlo : ∀ y, lo = some y → ∃ v, vlo = some v ∧ RA ρ U w hd y v) (hlo' : lo = none → vlo = none) (hhi : ∀ y, hi = some y → ∃ v, vhi = some v ∧ RA ρ U w hd y v) (hhi' : hi = none → vhi = none)
    (hmx : ∀ y, mx = some y → ∃ v, vmx = some v ∧ RA ρ U w hd y v) (hmx' : mx = none → vmx = none) (hh : Hdrs ob hd) (hr : ∀ j ∈ x.refs, j < n) : Yes P ρ U w hd n k r (Instr.sliceAt t u vlo vhi vmx) := by
  unfold sliceZ at h
  split at h
  · rename_i e' i' u' xs p l he
    obtain ⟨v, rfl, hv⟩ := hlo _ rfl
    have e2 := IRd.int hv
    subst e2
    rw [hhi' rfl, hmx' rfl]
    split at h
    · rename_i hu
      subst hu
      split at h
      · rename_i h0
        split at h
        · rename_i h1
          obtain ⟨cs, rfl, hc⟩ := hx
          obtain ⟨A0, c, ds, rfl, h2, h3, _⟩ := id hc
          have hl : l.toNat ≤ xs.length := idx_le h0 h1
          have k1 := cut_list hc hl (Nat.le_refl _)
          rw [List.take_length] at k1
          refine ⟨_, _, h, ⟨_, rfl, k1⟩, by simp [A.refs], fun w' => ?_⟩
          exact slice_all ok he A0 xs.length c (lo := some (p, l)) (hi := none) none l.toNat xs.length c rfl rfl ⟨h0, h1, rfl⟩ w'
        · cases h
      · cases h
    · cases h
  · rename_i e' i' u' xs p l he
    obtain ⟨v, rfl, hv⟩ := hhi _ rfl
    have e2 := IRd.int hv
    subst e2
    rw [hlo' rfl, hmx' rfl]
    split at h
    · rename_i hu
      subst hu
      split at h
      · rename_i h0
        split at h
        · rename_i h1
          obtain ⟨cs, rfl, hc⟩ := hx
          obtain ⟨A0, c, ds, rfl, h2, h3, _⟩ := id hc
          have hl : l.toNat ≤ xs.length := idx_le h0 h1
          have k1 := cut_list hc (Nat.zero_le _) hl
          refine ⟨_, _, h, ⟨_, rfl, k1⟩, by simp [A.refs], fun w' => ?_⟩
          exact slice_all ok he A0 xs.length c (lo := none) (hi := some (p, l)) none 0 l.toNat c rfl ⟨h0, by have := idx_le h0 h1; omega, rfl⟩ rfl w'
        · cases h
      · cases h
    · cases h
  · rename_i e' i' u' xs p l p2 l2 he
    obtain ⟨v, rfl, hv⟩ := hlo _ rfl
    obtain ⟨v2, rfl, hv2⟩ := hhi _ rfl
    have e2 := IRd.int hv
    have e3 := IRd.int hv2
    subst e2 e3
    rw [hmx' rfl]
    split at h
    · rename_i hu
      subst hu
      split at h
      · rename_i h0
        split at h
        · rename_i h1
          split at h
          · rename_i h2
            obtain ⟨cs, rfl, hc⟩ := hx
            obtain ⟨A0, c, ds, rfl, h3, h4, _⟩ := id hc
            obtain ⟨q1, q2, q3, q4⟩ := idx_le2 h0 h1 h2 h4
            have k1 := cut_list hc q1 q2
            refine ⟨_, _, h, ⟨_, rfl, k1⟩, by simp [A.refs], fun w' => ?_⟩
            exact slice_all ok he A0 xs.length c (lo := some (p, l)) (hi := some (p2, l2)) none l.toNat l2.toNat c rfl ⟨q3, q4, rfl⟩ ⟨h0, by have := idx_le2' h0 h1; exact this, rfl⟩ w'
          · cases h
        · cases h
      · cases h
    · cases h
  · rename_i e' i' m p l he
    obtain ⟨v, rfl, hv⟩ := hhi _ rfl
    have e2 := IRd.int hv
    subst e2
    rw [hlo' rfl, hmx' rfl]
    have e1 : u = hd m := hx
    subst e1
    split at h
    · rename_i e2 u' xs hat
      split at h
      · rename_i hu
        subst hu
        split at h
        · rename_i h0
          split at h
          · rename_i h1
            have hl : l.toNat ≤ xs.length := idx_le h0 h1
            obtain ⟨a, c, q1, q2⟩ := (hh _ _ _ _ hat).form
            refine ⟨_, _, h, ⟨a, xs.length, c, c, q1, hl, rfl, by omega, fun _ => rfl⟩, by simpa [A.refs] using hr, fun w' => ?_⟩
            have := slice_all ok he a xs.length c (lo := none) (hi := some (p, l)) none 0 l.toNat c rfl ⟨h0, by have := idx_le h0 h1; exact le_cast h0 (by omega), rfl⟩ rfl w'
            rw [q1]
            simpa [Addr.add] using this
          · cases h
        · cases h
      · cases h
    · cases h
  · rename_i e' i' m p l p2 l2 he
    obtain ⟨v, rfl, hv⟩ := hhi _ rfl
    obtain ⟨v2, rfl, hv2⟩ := hmx _ rfl
    have e2 := IRd.int hv
    have e3 := IRd.int hv2
    subst e2 e3
    rw [hlo' rfl]
    have e1 : u = hd m := hx
    subst e1
    split at h
    · rename_i e2 u' xs hat
      split at h
      · rename_i hu
        subst hu
        split at h
        · rename_i h0
          split at h
          · rename_i h1
            split at h
            · rename_i h2
              obtain ⟨a, c, q1, q2⟩ := (hh _ _ _ _ hat).form
              obtain ⟨r1, r2, r3, r4⟩ := idx_le2 h0 h1 h2 q2
              refine ⟨_, _, h, ⟨a, xs.length, c, l2.toNat, q1, by omega, rfl, idx_le3 h0 h1, fun h => by cases h⟩, by simpa [A.refs] using hr, fun w' => ?_⟩
              have := slice_all ok he a xs.length c (lo := none) (hi := some (p, l)) (some (p2, l2)) 0 l.toNat l2.toNat ⟨r3, r4, rfl, rfl⟩ ⟨h0, idx_le2' h0 h1, rfl⟩ rfl w'
              rw [q1]
              simpa [Addr.add] using this
            · cases h
          · cases h
        · cases h
      · cases h
    · cases h
  · rename_i e' i' m nn p l he
    obtain ⟨v, rfl, hv⟩ := hhi _ rfl
    have e2 := IRd.int hv
    subst e2
    rw [hlo' rfl, hmx' rfl]
    obtain ⟨a0, l0, c0, c1, q0, q3, rfl, q5, q4⟩ := hx
    have := q4 rfl
    subst this
    split at h
    · rename_i e2 u' xs hat
      split at h
      · rename_i hu
        subst hu
        split at h
        · rename_i h0
          split at h
          · rename_i h1
            have hl : l.toNat ≤ xs.length := idx_le h0 h1
            obtain ⟨a, c, q1, q2⟩ := (hh _ _ _ _ hat).form
            rw [q0] at q1
            injection q1 with r1 r2 r3
            subst r1 r2 r3
            refine ⟨_, _, h, ⟨a0, xs.length, c1, c1, q0, hl, rfl, by omega, fun _ => rfl⟩, by simpa [A.refs] using hr, fun w' => ?_⟩
            have := slice_all ok he a0 nn c1 (lo := none) (hi := some (p, l)) none 0 l.toNat c1 rfl ⟨h0, le_cast h0 (by omega), rfl⟩ rfl w'
            simpa [Addr.add] using this
          · cases h
        · cases h
      · cases h
    · cases h
  · cases h
theorem extract_yes : ∀ {x : A} {i : Nat} {u : Value}, extractZ x i k = some r → RA ρ U w hd x u → (∀ j ∈ x.refs, j < n) → Yes P ρ U w hd n k r (Instr.extract u i)
  | .tcons a b, 0, u, h, ⟨x, xs, e, h1, _⟩, hr => ⟨_, _, h, h1, fun j hj => hr j (by simp [A.refs, hj]), fun w' => by subst e; simp [Instr.extract, go_sem]⟩
  | .tcons a b, i + 1, u, h, ⟨x, xs, e, _, h2⟩, hr => by
    subst e
    obtain ⟨z, v, h3, h4, h5, h6⟩ := extract_yes (x := b) (i := i) h h2 (fun j hj => hr j (by simp [A.refs, hj]))
    refine ⟨z, v, h3, h4, h5, fun w' => ?_⟩
    have := h6 w'
    simpa [Instr.extract, go_sem] using this
  | .un, _, _, h, _, _ => by cases h
  | .und, _, _, h, _, _ => by cases h
  | .v _ _, _, _, h, _, _ => by cases h
  | .nls, _, _, h, _, _ => by cases h
  | .nlp, _, _, h, _, _ => by cases h
  | .row _, _, _, h, _, _ => by cases h
  | .cut _ _ _, _, _, h, _, _ => by cases h
  | .adr _ _ _ _ _, _, _, h, _, _ => by cases h
  | .ref _ _, _, _, h, _, _ => by cases h
  | .box _ _, _, _, h, _, _ => by cases h
  | .tnil, _, _, h, _, _ => by cases h
  | .str _, _, _, h, _, _ => by cases h
theorem len_run (ok : TabOk P tab) {ob : List Ob} {x : A} {u : Value} {kk : Nat → Option R} (h : lenZ ob x kk = some r) (hx : RA ρ U w hd x u) (hh : Hdrs ob hd) : ∃ m a c, kk m = some r ∧ u = .slice a m c := by
  unfold lenZ at h
  split at h
  · obtain ⟨A, c, e, _⟩ := IRd.list hx
    exact ⟨_, A, c, h, e⟩
  · exact ⟨0, none, 0, h, hx⟩
  · split at h
    · rename_i hat
      obtain ⟨a, c, e, _⟩ := (hh _ _ _ _ hat).form
      exact ⟨_, a, c, h, by rw [← e]; exact hx⟩
    · cases h
  · obtain ⟨a, l, c, c', _, _, e, _, _⟩ := hx
    exact ⟨_, a, c', h, e⟩
  · cases h
def All2 {α β : Type} (Q : α → β → Prop) : List α → List β → Prop
  | [], [] => True
  | a :: l, b :: m => Q a b ∧ All2 Q l m
  | _, _ => False
theorem best_yes (big : Bool) (p : IntKind) {l : List A} : ∀ {x : Int} {vs : List Value}, bestZ big x l p k = some r → All2 (RA ρ U w hd) l vs → Yes P ρ U w hd n k r (vs.foldlM (if big then Builtin.max2 else Builtin.min2) (.int p x)) := by
  induction l with
  | nil =>
    intro x vs h hl
    cases vs with
    | cons _ _ => exact hl.elim
    | nil => exact ⟨_, _, h, ira_int _ _ _ _ _ _, by simp [A.refs], fun w' => by simp [go_sem]⟩
  | cons a l ih =>
    intro x vs h hl
    cases vs with
    | nil => exact hl.elim
    | cons v vs =>
      obtain ⟨hx, hl⟩ := hl
      unfold bestZ at h
      split at h
      · rename_i heq
        cases heq
      · rename_i heq
        injection heq with e1 e2
        subst e1 e2
        have e3 := IRd.int hx
        subst e3
        obtain ⟨z, v', h3, h4, h5, h6⟩ := ih h hl
        refine ⟨z, v', h3, h4, h5, fun w' => ?_⟩
        have := h6 w'
        cases big <;> simpa [List.foldlM_cons, Builtin.max2, Builtin.min2, pickZ_eq, go_sem] using this
      · cases h
theorem all2_map {st : St} {ev' : Operand → Value} (he : ∀ x, RA ρ U w hd (ev st x) (ev' x)) : ∀ l : List Operand, All2 (RA ρ U w hd) (l.map (ev st)) (l.map ev')
  | [] => trivial
  | x :: l => ⟨he x, all2_map he l⟩
theorem Yes.next {s : Sem Value} {f : Sem Next} (h : Yes P ρ U w hd n k r s) (hf : f = do pure (.value (← s))) : ∃ z v, k z = some r ∧ RA ρ U w hd z v ∧ (∀ j ∈ z.refs, j < n) ∧ ∀ w', f.run P w' = .ok (.value v) w' := by
  obtain ⟨z, v, h1, h2, h3, h4⟩ := h
  refine ⟨z, v, h1, h2, h3, fun w' => ?_⟩
  rw [hf]
  simp [h4 w', go_sem]
theorem builtin_yes (ok : TabOk P tab) {st : St} {ev' : Operand → Value} {b : Builtin} {xs : Array Operand} {ts : Array TypeId} {ty : TypeId} (h : builtinZ tab st b ts.toList (xs.toList.map (ev st)) k = some r) (he : ∀ x, RA ρ U w hd (ev st x) (ev' x)) (hh : Hdrs st.ob hd) :
    ∃ z v, k z = some r ∧ RA ρ U w hd z v ∧ (∀ j ∈ z.refs, j < n) ∧ ∀ w', (do let d ← resolve ev' ⟨.builtin b, xs, ts⟩ ty; invoke d.target d.args : Sem Next).run P w' = .ok (.value v) w' := by
  have ha := all2_map he xs.toList
  obtain ⟨xs⟩ := xs
  obtain ⟨ts⟩ := ts
  simp only at h ha
  generalize xs.map (ev st) = ys at h ha
  unfold builtinZ at h
  split at h
  · rename_i x
    split at h
    · rename_i t ts'
      split at h
      · rename_i ei hei
        obtain ⟨e, i⟩ := ei
        obtain ⟨h1, h2⟩ := elem_ok ok hei
        cases xs with
        | nil => exact ha.elim
        | cons o l =>
          cases l with
          | cons _ _ => exact ha.2.elim
          | nil =>
            obtain ⟨m, A0, c, h3, h4⟩ := len_run ok h ha.1 hh
            refine ⟨_, _, h3, ira_int _ _ _ _ _ _, by simp [A.refs], fun w' => ?_⟩
            simp [resolve, invoke, builtin, Builtin.len_, underlying, h1, h4, goInt, go_sem]
      · cases h
    · cases h
  · rename_i p x l
    cases xs with
    | nil => exact ha.elim
    | cons o l' =>
      have e1 := IRd.int ha.1
      refine Yes.next (best_yes true p h ha.2) ?_
      simp [resolve, invoke, builtin, Builtin.max_, e1, go_sem]
  · rename_i p x l
    cases xs with
    | nil => exact ha.elim
    | cons o l' =>
      have e1 := IRd.int ha.1
      refine Yes.next (best_yes false p h ha.2) ?_
      simp [resolve, invoke, builtin, Builtin.min_, e1, go_sem]
  · cases h
theorem toV0 {u : T} {x : A} {v : Value} {y : u.den} (h : A.toV [] u x = some y) (hx : RA ρ U w hd x v) : IRd ρ U w u v y := by
  unfold A.toV at h
  split at h
  · split at h
    · rename_i e
      subst e
      cases h
      exact hx
    · cases h
  · split at h
    · cases h
      exact ⟨[.slice none 0 0], hx, none, 0, [], rfl, Nat.zero_le _, Nat.le_refl _, rfl, fun h => absurd h (by simp)⟩
    · cases h
  · split at h
    · cases h
      exact ⟨[.pointer none], hx, _, rfl, rfl⟩
    · cases h
      exact ⟨[.pointer none], hx, _, rfl, rfl⟩
    · cases h
  · simp [atn] at h
  · simp [atn] at h
  · cases h
theorem mapM_run {α β : Type} {f : α → Sem β} {g : α → β} : ∀ (l : List α) (w' : World), (∀ x ∈ l, (f x).run P w' = .ok (g x) w') → (l.mapM f).run P w' = .ok (l.map g) w'
  | [], w', _ => by simp [go_sem]
  | x :: l, w', h => by
    have h1 := h x (by simp)
    have h2 := mapM_run l w' (fun y hy => h y (by simp [hy]))
    simp [List.mapM_cons, h1, h2, go_sem]
theorem fold_set (off : Nat) : ∀ (ds : List Value) (j : Nat) (cs : List Value), off + j + ds.length ≤ cs.length →
    (List.foldl (fun (a : Array Value) (p : Value × Nat) => a.setIfInBounds (off + p.2) p.1) cs.toArray (ds.zipIdx j)) = (cs.take (off + j) ++ ds ++ cs.drop (off + j + ds.length)).toArray
  | [], j, cs, h => by simp
  | d :: ds, j, cs, h => by
    simp only [List.length_cons] at h
    have h1 : off + j < cs.length := by omega
    rw [List.zipIdx_cons, List.foldl_cons]
    have h2 : (cs.toArray.setIfInBounds (off + j) d) = (cs.set (off + j) d).toArray := by simp
    simp only
    rw [h2, fold_set off ds (j + 1) (cs.set (off + j) d) (by rw [List.length_set]; omega)]
    congr 1
    rw [show off + (j + 1) = (off + j) + 1 by omega, List.length_cons, List.take_succ_eq_append_getElem (by rw [List.length_set]; omega), List.getElem_set_self, List.take_set_of_le (Nat.le_refl _), List.drop_set_of_lt (by omega)]
    simp only [List.append_assoc, List.cons_append, List.nil_append]
    rw [show off + j + 1 + ds.length = off + j + (ds.length + 1) by omega]
theorem fill_ok {place : Nat → Option (Nat × Nat)} {cells : List Value} {i : Nat} {v : Value} {rest : List (Nat × Value)} {off : Nat} {ds : List Value} (hp : place i = some (off, ds.length)) (hv : v.cells = ds.toArray) (hl : off + ds.length ≤ cells.length) :
    Instr.fill place cells.toArray ((i, v) :: rest) = Instr.fill place (cells.take off ++ ds ++ cells.drop (off + ds.length)).toArray rest := by
  rw [Instr.fill]
  simp only [hp, hv]
  rw [if_neg (by simp; omega)]
  congr 1
  have := fold_set off ds 0 cells (by omega)
  simpa using this
theorem build_all (ok : TabOk P tab) {st : St} {ev' : Operand → Value} (he : ∀ x, RA ρ U w hd (ev st x) (ev' x)) {s : TypeId} {t : T} {place : Nat → Option (Nat × Nat)} (hp : ∀ f o u, fldZ tab s f = some (o, u) → place f = some (o, u.size)) :
    ∀ (l : List (Nat × Operand)) {x y : t.den} {cs : List Value}, buildZ tab st s t l x = some y → ICs ρ U w t cs x → ∃ ds, Instr.fill place cs.toArray (l.map fun p => (p.1, ev' p.2)) = some ds.toArray ∧ ICs ρ U w t ds y
  | [], x, y, cs, h, hc => by cases h; exact ⟨cs, rfl, hc⟩
  | (f, o) :: l, x, y, cs, h, hc => by
    unfold buildZ at h
    split at h
    · rename_i off u hf
      split at h
      · rename_i z hz
        split at h
        · rename_i x' hx'
          obtain ⟨es, e1, e2⟩ := toV0 hz (he o)
          obtain ⟨k1, k2⟩ := ICs.upd u e2 hc hx'
          have hl := ICs.length hc
          have hu := ICs.length e2
          obtain ⟨ds, h3, h4⟩ := build_all ok he hp l h k1
          refine ⟨ds, ?_, h4⟩
          rw [← h3, List.map_cons]
          rw [← hu]
          exact fill_ok (by rw [hp f off u hf, hu]) (by rw [e1]; exact pack_cs e2) (by omega)
        · cases h
      · cases h
    · cases h
theorem zero_ics : ∀ t : T, ICs ρ U w t (zeroC t) t.dflt
  | .int _ => rfl
  | .bool => rfl
  | .flt => rfl
  | .list _ => ⟨none, 0, [], rfl, Nat.zero_le _, Nat.le_refl _, rfl, fun h => absurd h (by simp [T.dflt])⟩
  | .pair a b => ⟨_, _, rfl, zero_ics a, zero_ics b⟩
  | .obj _ => ⟨_, rfl, rfl⟩
  | .ptr _ => ⟨_, rfl, rfl⟩
  | .one t => zero_ics t
theorem build_yes (ok : TabOk P tab) {st : St} {ev' : Operand → Value} (he : ∀ x, RA ρ U w hd (ev st x) (ev' x)) {s : TypeId} {t : T} {fs : List (Nat × TypeId)} {by' : Nat} {parts : Array (Nat × Operand)} {y : t.den} (hf : tab.find s = some ⟨t, .st fs, by'⟩) (hb : buildZ tab st s t parts.toList t.dflt = some y) (h : k (.v t y) = some r) :
    Yes P ρ U w hd n k r (Instr.build s (parts.map fun (i, x) => (i, ev' x))) := by
  obtain ⟨hp, fields, h1, h2, h3⟩ := ok.und _ _ hf
  simp only at hp
  obtain ⟨inf, i1, _, _, _, i5⟩ := ok.info _ _ hf
  have hsz : ∀ f : Field, f ∈ fields.toList → ∃ j, tab.find f.type = some j := fun f hm => by
    obtain ⟨q, hq, e⟩ := List.getElem_of_mem hm
    have hq' : q < fields.size := by simpa using hq
    obtain ⟨f', j, g1, _, _, g4⟩ := h3 q (by omega)
    have : f' = f := by
      rw [Array.getElem?_eq_getElem hq'] at g1
      injection g1 with g1
      rw [← g1, ← e]
      simp
    subst this
    exact ⟨j, g4⟩
  let sz : TypeId → Nat := fun id => match tab.find id with
    | some j => j.t.size
    | none => 0
  have hpl : ∀ w', (fields.mapM fun f => do pure (f.offset, ← sizeOf f.type) : Sem (Array (Nat × Nat))).run P w' = .ok (fields.map fun f => (f.offset, sz f.type)) w' := fun w' => by
    rw [Array.mapM_eq_mapM_toList]
    have := mapM_run (P := P) (f := fun f : Field => (do pure (f.offset, ← sizeOf f.type) : Sem (Nat × Nat))) (g := fun f => (f.offset, sz f.type)) fields.toList w' (fun f hm => by
      obtain ⟨j, hj⟩ := hsz f hm
      have := sizeOf_run ok hj w'
      simp only [sz, hj]
      simp [go_sem]
      rw [this]
      simp [go_sem])
    rw [map_eq_pure_bind]
    generalize hg : List.mapM (m := Sem) (fun f : Field => (do pure (f.offset, ← sizeOf f.type) : Sem (Nat × Nat))) fields.toList = g0 at this
    have e : (g0 >>= fun a => pure a.toArray : Sem _).run P w' = .ok (List.map (fun f : Field => (f.offset, sz f.type)) fields.toList).toArray w' := by
      simp [this, go_sem]
    rw [← Array.toList_map, Array.toArray_toList] at e
    simpa using e
  obtain ⟨ds, q1, q2⟩ := build_all ok he (place := fun q => (fields.map fun f => (f.offset, sz f.type))[q]?) (fun f o u hfo => by
    obtain ⟨fields', fd, j, g1, g2, g3, g4, g5⟩ := fld_ok ok hfo
    rw [h1] at g1
    cases g1
    simp only [Array.getElem?_map, g2, Option.map_some, g3, sz, g4, g5]) parts.toList hb (zero_ics t)
  refine ⟨_, .agg ds.toArray, h, ⟨ds, (pack_agg hp ds).symm, q2⟩, by simp [A.refs], fun w' => ?_⟩
  have h5 := hpl w'
  have hz : (zeroValue s).run P w' = .ok (.agg (zeroC t).toArray) w' := by simp [zeroValue, typeInfo, i1, i5, pack_agg hp, go_sem]
  unfold Instr.build
  rw [Sem.run_bind, hz, Result.andThen_ok, Sem.run_bind, run_underlying h1, Result.andThen_ok]
  simp only
  rw [Sem.run_bind, h5, Result.andThen_ok]
  simp only [Value.cells]
  have e6 : (parts.map fun (i, x) => (i, ev' x)).toList = parts.toList.map fun p => (p.1, ev' p.2) := by simp
  rw [e6, q1]
  simp [go_sem]
theorem one_cells : ∀ {v : Value}, v.oneCell' = true → v.cells = #[v]
  | .bool _, _ => rfl
  | .int _ _, _ => rfl
  | .float _ _, _ => rfl
  | .complex _ _ _, _ => rfl
  | .string _, _ => rfl
  | .pointer _, _ => rfl
  | .slice _ _ _, _ => rfl
  | .map _, _ => rfl
  | .chan _, _ => rfl
  | .func _ _ _, _ => rfl
  | .nilFunc, _ => rfl
  | .iface _ _, _ => rfl
  | .nilIface, _ => rfl
  | .agg _, h => by simp [Value.oneCell'] at h
  | .tuple _, _ => rfl
theorem oneB_cell {x : A} {v : Value} (h : x.oneB = true) (hx : RA ρ U w hd x v) (hh : ∀ i, x = .row i → v.oneCell' = true) : v.oneCell' = true := by
  cases x with
  | v t y =>
    cases hp : t.isPair with
    | true => cases t <;> simp [T.isPair] at hp <;> simp [A.oneB] at h
    | false =>
      obtain ⟨cs, rfl, hc⟩ := hx
      obtain ⟨u, rfl, _, h3⟩ := ICs.one hp hc
      rw [pack_one hp]
      exact h3
  | nls => rw [show v = _ from hx]; rfl
  | nlp => rw [show v = _ from hx]; rfl
  | row i =>
    exact hh i rfl
  | cut i n f => obtain ⟨_, _, _, _, _, _, e, _⟩ := hx; rw [e]; rfl
  | adr i j k s t => obtain ⟨_, _, _, _, _, e⟩ := hx; rw [e]; rfl
  | ref t y => obtain ⟨_, _, _, e, _⟩ := hx; rw [e]; rfl
  | box i k => obtain ⟨_, _, e⟩ := hx; rw [e]; rfl
  | _ => simp [A.oneB] at h
theorem cellB_cell {ob : List Ob} (hh : Hdrs ob hd) {x : A} {v : Value} (h : cellB ob x = true) (hx : RA ρ U w hd x v) : v.oneCell' = true := by
  cases x with
  | row i =>
    simp only [cellB] at h
    split at h
    · rename_i e t xs hat
      obtain ⟨a1, c1, e3, _⟩ := (hh i e t xs hat).form
      rw [show v = hd i from hx, e3]
      rfl
    · cases h
  | _ => refine oneB_cell ?_ hx (fun i e => by cases e); exact h
theorem all2_app {α β : Type} {S : α → β → Prop} : ∀ {l l' : List α} {m m' : List β}, All2 S l m → All2 S l' m' → All2 S (l ++ l') (m ++ m')
  | [], _, [], _, _, h => h
  | [], _, _ :: _, _, h, _ => h.elim
  | _ :: _, _, [], _, h, _ => h.elim
  | _ :: _, _, _ :: _, _, h, k => ⟨h.1, all2_app h.2 k⟩
theorem zero_all (U : Nat → Prop) (w : World) (hd : Nat → Value) : ∀ t : T, All2 (fun x v => v.oneCell' = true ∧ RA ρ U w hd x v ∧ x.refs = []) (zeroA t) (zeroC t)
  | .int k => ⟨⟨rfl, ⟨_, rfl, rfl⟩, rfl⟩, trivial⟩
  | .bool => ⟨⟨rfl, ⟨_, rfl, rfl⟩, rfl⟩, trivial⟩
  | .flt => ⟨⟨rfl, ⟨_, rfl, rfl⟩, rfl⟩, trivial⟩
  | .list _ => ⟨⟨rfl, rfl, rfl⟩, trivial⟩
  | .pair a b => all2_app (zero_all U w hd a) (zero_all U w hd b)
  | .obj n => ⟨⟨rfl, ⟨_, rfl, _, rfl, rfl⟩, rfl⟩, trivial⟩
  | .ptr n => ⟨⟨rfl, ⟨_, rfl, _, rfl, rfl⟩, rfl⟩, trivial⟩
  | .one t => zero_all U w hd t
theorem str_all (ok : TabOk P tab) {st : St} {ev' : Operand → Value} (he : ∀ x, RA ρ U w hd (ev st x) (ev' x)) (hh : Hdrs st.ob hd) {s : TypeId} {place : Nat → Option (Nat × Nat)} (hp : ∀ f o u, fldZ tab s f = some (o, u) → place f = some (o, u.size)) :
    ∀ (zs : List A) (zv : List Value) (l : List (Nat × Operand)) (m : Nat) {a : A} (pre : List Value), All2 (fun x v => v.oneCell' = true ∧ RA ρ U w hd x v ∧ x.refs = []) zs zv → strZ tab st s m zs l = some a → pre.length = m → ∃ vs, Instr.fill place (pre ++ zv).toArray (l.map fun p => (p.1, ev' p.2)) = some (pre ++ vs).toArray ∧ (∀ x ∈ vs, x.oneCell' = true) ∧ RA ρ U w hd a (.tuple vs.toArray)
  | [], zv, [], m, a, pre, hz, h, _ => by
    simp only [strZ] at h
    cases h
    cases zv with
    | cons _ _ => exact absurd hz (by simp [All2])
    | nil => exact ⟨[], rfl, by simp, rfl⟩
  | [], _, _ :: _, m, a, pre, _, h, _ => by simp [strZ] at h
  | z :: zs, [], _, _, _, _, hz, _, _ => absurd hz (by simp [All2])
  | z :: zs, v :: zv, [], m, a, pre, hz, h, hm => by
    simp only [strZ] at h
    split at h
    · rename_i a' ha
      cases h
      obtain ⟨⟨h1, h2, _⟩, hz⟩ := hz
      obtain ⟨vs, q1, q2, q3⟩ := str_all ok he hh hp zs zv [] (m + 1) (pre ++ [v]) hz ha (by simp [hm])
      refine ⟨v :: vs, ?_, ?_, _, _, rfl, h2, q3⟩
      · rw [List.append_assoc, List.append_assoc] at q1
        exact q1
      · intro x hx
        rcases List.mem_cons.1 hx with rfl | hx
        · exact h1
        · exact q2 x hx
    · cases h
  | z :: zs, v :: zv, (f, y) :: l, m, a, pre, hz, h, hm => by
    simp only [strZ] at h
    obtain ⟨⟨z1, z2, _⟩, hz⟩ := hz
    split at h
    · rename_i hfn
      split at h
      · rename_i o u hf
        split at h
        · rename_i hc
          obtain ⟨rfl, hu, hone⟩ := hc
          split at h
          · rename_i a' ha
            cases h
            have h1 := cellB_cell hh hone (he y)
            have hsz := T.size_one _ hu
            obtain ⟨vs, q1, q2, q3⟩ := str_all ok he hh hp zs zv l (o + 1) (pre ++ [ev' y]) hz ha (by simp [hm])
            refine ⟨ev' y :: vs, ?_, ?_, _, _, rfl, he y, q3⟩
            · rw [List.map_cons, fill_ok (ds := [ev' y]) (off := o) (by rw [hp _ _ _ hf, hsz]; rfl) (one_cells h1) (by simp; omega), ← hm, List.take_left' rfl]
              have e1 : (pre ++ v :: zv).drop (pre.length + [ev' y].length) = zv := by
                rw [← List.drop_drop, List.drop_left' rfl]; rfl
              rw [e1, q1, List.append_assoc]
              rfl
            · intro x hx
              rcases List.mem_cons.1 hx with rfl | hx
              · exact h1
              · exact q2 x hx
          · cases h
        · cases h
      · cases h
    · split at h
      · rename_i a' ha
        cases h
        obtain ⟨vs, q1, q2, q3⟩ := str_all ok he hh hp zs zv ((f, y) :: l) (m + 1) (pre ++ [v]) hz ha (by simp [hm])
        refine ⟨v :: vs, ?_, ?_, _, _, rfl, z2, q3⟩
        · rw [List.append_assoc, List.append_assoc] at q1
          exact q1
        · intro x hx
          rcases List.mem_cons.1 hx with rfl | hx
          · exact z1
          · exact q2 x hx
      · cases h
theorem strZ_refs {st : St} {s : TypeId} (hr : ∀ x, ∀ j ∈ (ev st x).refs, j < n) : ∀ (zs : List A) (l : List (Nat × Operand)) (m : Nat) {a : A}, (∀ z ∈ zs, z.refs = []) → strZ tab st s m zs l = some a → ∀ j ∈ a.refs, j < n
  | [], [], m, a, _, h, j, hj => by simp only [strZ] at h; cases h; simp [A.refs] at hj
  | [], _ :: _, _, _, _, h, _, _ => by simp [strZ] at h
  | z :: zs, [], m, a, hz, h, j, hj => by
    simp only [strZ] at h
    split at h
    · rename_i a' ha
      cases h
      simp only [A.refs, List.mem_append, hz z (List.mem_cons_self), List.not_mem_nil, false_or] at hj
      exact strZ_refs hr zs [] _ (fun x hx => hz x (List.mem_cons_of_mem _ hx)) ha j hj
    · cases h
  | z :: zs, (f, y) :: l, m, a, hz, h, j, hj => by
    simp only [strZ] at h
    split at h
    · split at h
      · split at h
        · split at h
          · rename_i a' ha
            cases h
            simp only [A.refs, List.mem_append] at hj
            rcases hj with hj | hj
            · exact hr y j hj
            · exact strZ_refs hr zs l _ (fun x hx => hz x (List.mem_cons_of_mem _ hx)) ha j hj
          · cases h
        · cases h
      · cases h
    · split at h
      · rename_i a' ha
        cases h
        simp only [A.refs, List.mem_append, hz z (List.mem_cons_self), List.not_mem_nil, false_or] at hj
        exact strZ_refs hr zs _ _ (fun x hx => hz x (List.mem_cons_of_mem _ hx)) ha j hj
      · cases h
theorem all2_refs {zs : List A} : ∀ {zv : List Value}, All2 (fun x v => v.oneCell' = true ∧ RA ρ U w hd x v ∧ x.refs = []) zs zv → ∀ z ∈ zs, z.refs = [] := by
  induction zs with
  | nil => intro _ _ z hz; cases hz
  | cons x zs ih =>
    intro zv h z hz
    cases zv with
    | nil => exact absurd h (by simp [All2])
    | cons v zv =>
      rcases List.mem_cons.1 hz with rfl | hz
      · exact h.1.2.2
      · exact ih h.2 z hz
theorem str_yes (ok : TabOk P tab) {st : St} {ev' : Operand → Value} (he : ∀ x, RA ρ U w hd (ev st x) (ev' x)) (hh : Hdrs st.ob hd) (hr : ∀ x, ∀ j ∈ (ev st x).refs, j < n) {s : TypeId} {t : T} {fs : List (Nat × TypeId)} {by' : Nat} {parts : Array (Nat × Operand)} {a : A} (hf : tab.find s = some ⟨t, .st fs, by'⟩) (hb : strZ tab st s 0 (zeroA t) parts.toList = some a) (h : k (.str a) = some r) :
    Yes P ρ U w hd n k r (Instr.build s (parts.map fun (i, x) => (i, ev' x))) := by
  obtain ⟨hp, fields, h1, h2, h3⟩ := ok.und _ _ hf
  simp only at hp
  obtain ⟨inf, i1, i2, _, _, i5⟩ := ok.info _ _ hf
  have hsz : ∀ f : Field, f ∈ fields.toList → ∃ j, tab.find f.type = some j := fun f hm => by
    obtain ⟨q, hq, e⟩ := List.getElem_of_mem hm
    have hq' : q < fields.size := by simpa using hq
    obtain ⟨f', j, g1, _, _, g4⟩ := h3 q (by omega)
    have : f' = f := by
      rw [Array.getElem?_eq_getElem hq'] at g1
      injection g1 with g1
      rw [← g1, ← e]
      simp
    subst this
    exact ⟨j, g4⟩
  let sz : TypeId → Nat := fun id => match tab.find id with
    | some j => j.t.size
    | none => 0
  have hpl : ∀ w', (fields.mapM fun f => do pure (f.offset, ← sizeOf f.type) : Sem (Array (Nat × Nat))).run P w' = .ok (fields.map fun f => (f.offset, sz f.type)) w' := fun w' => by
    rw [Array.mapM_eq_mapM_toList]
    have := mapM_run (P := P) (f := fun f : Field => (do pure (f.offset, ← sizeOf f.type) : Sem (Nat × Nat))) (g := fun f => (f.offset, sz f.type)) fields.toList w' (fun f hm => by
      obtain ⟨j, hj⟩ := hsz f hm
      have := sizeOf_run ok hj w'
      simp only [sz, hj]
      simp [go_sem]
      rw [this]
      simp [go_sem])
    rw [map_eq_pure_bind]
    generalize hg : List.mapM (m := Sem) (fun f : Field => (do pure (f.offset, ← sizeOf f.type) : Sem (Nat × Nat))) fields.toList = g0 at this
    have e : (g0 >>= fun a => pure a.toArray : Sem _).run P w' = .ok (List.map (fun f : Field => (f.offset, sz f.type)) fields.toList).toArray w' := by
      simp [this, go_sem]
    rw [← Array.toList_map, Array.toArray_toList] at e
    simpa using e
  obtain ⟨vs, q1, q2, q3⟩ := str_all ok he hh (place := fun q => (fields.map fun f => (f.offset, sz f.type))[q]?) (fun f o u hfo => by
    obtain ⟨fields', fd, j, g1, g2, g3, g4, g5⟩ := fld_ok ok hfo
    rw [h1] at g1
    cases g1
    simp only [Array.getElem?_map, g2, Option.map_some, g3, sz, g4, g5]) (zeroA t) (zeroC t) parts.toList 0 [] (zero_all U w hd t) hb rfl
  refine ⟨_, .agg vs.toArray, h, ⟨vs, rfl, q2, q3⟩, fun j hj => strZ_refs hr (zeroA t) parts.toList 0 (all2_refs (ρ := ρ) (zero_all U w hd t)) hb j hj, fun w' => ?_⟩
  have h5 := hpl w'
  have hz : (zeroValue s).run P w' = .ok (.agg (zeroC t).toArray) w' := by simp [zeroValue, typeInfo, i1, i5, pack_agg hp, go_sem]
  unfold Instr.build
  rw [Sem.run_bind, hz, Result.andThen_ok, Sem.run_bind, run_underlying h1, Result.andThen_ok]
  simp only
  rw [Sem.run_bind, h5, Result.andThen_ok]
  simp only [Value.cells]
  have e6 : (parts.map fun (i, x) => (i, ev' x)).toList = parts.toList.map fun p => (p.1, ev' p.2) := by simp
  rw [List.nil_append] at q1
  rw [e6, q1]
  simp [go_sem]
theorem opt_some {lo : Option Operand} {st : St} {ev' : Operand → Value} (he : ∀ x, RA ρ U w hd (ev st x) (ev' x)) : (∀ y, lo.map (ev st) = some y → ∃ v, lo.map ev' = some v ∧ RA ρ U w hd y v) ∧ (lo.map (ev st) = none → lo.map ev' = none) := by
  cases lo with
  | none => exact ⟨fun y h => (by cases h), fun _ => rfl⟩
  | some o => exact ⟨fun y h => by cases h; exact ⟨_, rfl, he o⟩, fun h => by cases h⟩
/-- An operation that looks at no memory yields what the small machine says, in every world. -/
theorem pure_sound (ok : TabOk P tab) {st : St} {a : Act} {o : Oper} (h : pureZ tab st o.op k = some r) (he : ∀ x, RA ρ U w hd (ev st x) (a.eval x)) (hr : ∀ x, ∀ j ∈ (ev st x).refs, j < n) (hh : Hdrs st.ob hd) :
    ∃ z v, k z = some r ∧ RA ρ U w hd z v ∧ (∀ j ∈ z.refs, j < n) ∧ ∀ w', (execOp a.eval o).run P w' = .ok (.value v) w' := by
  obtain ⟨dst, op, type, pos, after, guard⟩ := o
  simp only at h
  generalize a.eval = ev' at he ⊢
  unfold pureZ at h
  split at h
  · rename_i x
    exact ⟨_, _, h, he x, hr x, fun w' => by simp [execOp, go_sem]⟩
  · rename_i x
    exact ⟨_, _, h, he x, hr x, fun w' => by simp [execOp, go_sem]⟩
  · rename_i c x y
    split at h
    · rename_i b hc
      have e1 : ev' c = .bool b := IRd.bool (hc ▸ he c)
      cases b with
      | true => exact ⟨_, _, by simpa using h, he x, hr x, fun w' => by simp [execOp, e1, asBool, go_sem]⟩
      | false => exact ⟨_, _, by simpa using h, he y, hr y, fun w' => by simp [execOp, e1, asBool, go_sem]⟩
    · cases h
  · exact Yes.next (bin_yes ok h (he _) (he _) _ _) rfl
  · exact Yes.next (un_yes h (he _)) rfl
  · exact Yes.next (conv_yes ok h (he _)) rfl
  · rename_i x
    split at h
    · rename_i i c hx
      obtain ⟨b, e1, e2⟩ := (hx ▸ he x : RA ρ U w hd (.box i c) (ev' x))
      exact ⟨_, _, h, ⟨b, e1, rfl⟩, by have := hr x; rw [hx] at this; exact this, fun w' => by simp [execOp, e2, go_sem]⟩
    · rename_i i j c s t hx
      obtain ⟨b, l, c', e1, e2, e3⟩ := (hx ▸ he x : RA ρ U w hd (.adr i j c s t) (ev' x))
      exact ⟨_, _, h, ⟨b, l, c', e1, e2, rfl⟩, by have := hr x; rw [hx] at this; exact this, fun w' => by simp [execOp, e3, go_sem]⟩
    · rename_i t y hx
      obtain ⟨b, off, cs, e1, e2, e3⟩ := (hx ▸ he x : RA ρ U w hd (.ref t y) (ev' x))
      exact ⟨_, _, h, ⟨b, off, cs, rfl, e2, e3⟩, by simp [A.refs], fun w' => by simp [execOp, e1, go_sem]⟩
    · rename_i m y hx
      have h1 : RA ρ U w hd (.v (.obj m) y) (ev' x) := hx ▸ he x
      split at h
      · rename_i hs
        rcases IRd.obj h1 with ⟨rfl, _⟩ | ⟨z, a', rfl, e⟩
        · cases hs
        · exact ⟨_, _, h, h1, by simp [A.refs], fun w' => by simp [execOp, e, go_sem]⟩
      · cases h
    · rename_i t y hx
      have h1 : RA ρ U w hd (.v (.ptr t) y) (ev' x) := hx ▸ he x
      split at h
      · rename_i hs
        rcases IRd.ptr h1 with ⟨rfl, _⟩ | ⟨z, b, off, ds, rfl, e, e2, e3⟩
        · cases hs
        · exact ⟨_, _, h, ⟨b, off, ds, rfl, e2, e3⟩, by simp [A.refs], fun w' => by simp [execOp, e, go_sem]⟩
      · cases h
    · cases h
  · exact Yes.next (fieldAddr_yes ok h (he _) (hr _)) rfl
  · exact Yes.next (field_yes ok h (he _)) rfl
  · exact Yes.next (indexAddr_yes ok h (he _) (he _) hh (hr _)) rfl
  · rename_i t x lo hi mx
    exact Yes.next (slice_yes ok h (he _) (opt_some he).1 (opt_some he).2 (opt_some he).1 (opt_some he).2 (opt_some he).1 (opt_some he).2 hh (hr _)) rfl
  · exact Yes.next (extract_yes h (he _) (hr _)) rfl
  · split at h
    · rename_i hf
      split at h
      · rename_i y hb
        exact Yes.next (build_yes ok he hf hb h) rfl
      · split at h
        · rename_i a hs
          exact Yes.next (str_yes ok he hh hr hf hs h) rfl
        · cases h
    · cases h
  · obtain ⟨z, v, h1, h2, h3, h4⟩ := builtin_yes (ty := type) ok h he hh
    exact ⟨z, v, h1, h2, h3, fun w' => h4 w'⟩
  · cases h
end
end Go.Proofs.YthbojpaghbbnnaaDoor.Z
