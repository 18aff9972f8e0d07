/- Rows that a call owns, one block each: what an append to one of them leaves. Plain; no condition. -/
import Derived.Test.YthbojpaghbbnnaaD
import Derived.Test.YthbojpaghbbnnaaR
namespace Go.Proofs.Ythbojpaghbbnnaa
open Go.RowKit
set_option linter.unusedVariables false
set_option linter.unusedSimpArgs false

/-- Rows that the call owns, each at a block of its own: block tb holds the slices, T what they read as. -/
def RowsAt (w : World) (base tb n : Nat) (T : Nat → List Int) (vs : List Value) : Prop :=
  vs.length = n ∧ w.heap[tb]? = some (.cells vs.toArray 25 (0, 0)) ∧
    (∀ i, i < n → ∃ x, vs[i]? = some x ∧ w.ownsRow base 3 1 x (T i).length ((T i).map (Value.int .i64))) ∧
    (∀ (i j : Nat) (x y : Value), i ≠ j → vs[i]? = some x → vs[j]? = some y → x.ownBlock = none ∨ x.ownBlock ≠ y.ownBlock)
def OwnRows (w : World) (base tb n : Nat) (T : Nat → List Int) : Prop := ∃ vs, RowsAt w base tb n T vs
theorem RowsAt.kept {w w' : World} {base tb n : Nat} {T : Nat → List Int} {vs : List Value} {row : Option Nat} (h : RowsAt w base tb n T vs) (hg : w.grownBy w' row) (h1 : some tb ≠ row) (h2 : ∀ k, row = some k → k < base) : RowsAt w' base tb n T vs := by
  obtain ⟨a, b, c, d⟩ := h
  refine ⟨a, (hg.block tb (Array.getElem?_eq_some_iff.1 b).1 h1).trans b, fun i hi => ?_, d⟩
  obtain ⟨x, hx, hxo⟩ := c i hi
  refine ⟨x, hx, hxo.kept hg ?_⟩
  cases hb : x.ownBlock with
  | none => exact .inl rfl
  | some k =>
    right
    intro e
    have := h2 k e.symm
    have := (hxo.lt k hb).1
    omega
theorem OwnRows.kept {w w' : World} {base tb n : Nat} {T : Nat → List Int} {row : Option Nat} (h : OwnRows w base tb n T) (hg : w.grownBy w' row) (h1 : some tb ≠ row) (h2 : ∀ k, row = some k → k < base) : OwnRows w' base tb n T := by
  obtain ⟨vs, h⟩ := h
  exact ⟨vs, h.kept hg h1 h2⟩
theorem RowsAt.rows2 {w : World} {base tb n lo : Nat} {T : Nat → List Int} {vs : List Value} (h : RowsAt w base tb n T vs) (h1 : lo ≤ tb) (h2 : lo ≤ base) (hn : n ≤ 16777216) : Rows2 w lo w.heap.size (.slice (some ⟨tb, 0, none⟩) n n) n T := by
  obtain ⟨a, b, c, d⟩ := h
  refine ⟨vs, ⟨Nat.le_refl _, by omega, by unfold maxLen; omega, some ⟨tb, 0, none⟩, n, rfl, fun _ => ⟨tb, 0, rfl, h1, (Array.getElem?_eq_some_iff.1 b).1, fun j hj => ?_⟩⟩, fun i hi => ?_⟩
  · rw [cell_of b]
    simp
  · obtain ⟨x, hx, hxo⟩ := c i hi
    exact ⟨x, hx, (Sl1.own hxo).mono h2 (Nat.le_refl _) (Nat.le_refl _)⟩
theorem cell_set {w : World} (a : Addr) (v : Value) {b : Addr} (h : b.block ≠ a.block) : (w.setCell a v).cell? b = w.cell? b := World.cell?_of_block (w := w) (Below.heap_setCell w a v b.block h)
theorem far_cell {W w' : World} {o : Obj} {row : Option Nat} (hg : ((W.alloc o).drew).grownBy w' row) {a : Addr} {v : Value} (h : W.cell? a = some v) (hne : some a.block ≠ row) : w'.cell? a = some v := by
  have hlt := World.block_lt_of_cell? W a h
  have e : (W.alloc o).drew.cell? a = W.cell? a := World.cell?_of_block (w := W) (Below.heap_alloc W o a.block hlt)
  exact hg.cell (e.trans h) hne
theorem far_frozen {W w' : World} {o : Obj} {row : Option Nat} (hg : ((W.alloc o).drew).grownBy w' row) {a : Addr} (hlt : a.block < W.heap.size) (hne : some a.block ≠ row) : w'.frozen? a = W.frozen? a := by
  have e : (W.alloc o).drew.frozen? a = W.frozen? a := World.frozen?_of_block (w := W) (Below.heap_alloc W o a.block hlt)
  exact (hg.frozen_far a (by simp; omega) hne).trans e
theorem far_block {W w' : World} {o : Obj} {row : Option Nat} (hg : ((W.alloc o).drew).grownBy w' row) {b : Nat} (hlt : b < W.heap.size) (hne : some b ≠ row) : w'.heap[b]? = W.heap[b]? :=
  (hg.block b (by simp; omega) hne).trans (Below.heap_alloc W o b hlt)
theorem set_block {w : World} {b i : Nat} {vs : List Value} {t : TypeId} (h : w.heap[b]? = some (.cells vs.toArray t (0, 0))) (v : Value) : (w.setCell ⟨b, i, none⟩ v).heap[b]? = some (.cells (vs.set i v).toArray t (0, 0)) := by
  have hlt := (Array.getElem?_eq_some_iff.1 h).1
  simp [World.setCell, Array.getElem?_modify, h]
theorem RowsAt.app {W w' : World} {base tb n i g cap : Nat} {T : Nat → List Int} {y : Int} {x : Value} {o : Obj} {vs : List Value} (h : RowsAt W base tb n T vs)
    (hi : i < n) (hx : vs[i]? = some x) (htb : tb < base) (hbase : base ≤ W.heap.size)
    (hg : ((W.alloc o).drew).grownBy w' x.ownBlock)
    (hown : w'.ownsRow base 3 1 (.slice (some ⟨g, 0, none⟩) ((T i).length + 1) cap) ((T i).length + 1) ((T i).map (Value.int .i64) ++ [.int .i64 y]))
    (hat : x.ownBlock = some g ∨ g = W.heap.size + 1) :
    RowsAt (w'.setCell ⟨tb, i, none⟩ (.slice (some ⟨g, 0, none⟩) ((T i).length + 1) cap)) base tb n (fun k => if k = i then T i ++ [y] else T k) (vs.set i (.slice (some ⟨g, 0, none⟩) ((T i).length + 1) cap)) := by
  obtain ⟨h1, h2, h3, h4⟩ := h
  have hxo : W.ownsRow base 3 1 x (T i).length ((T i).map (Value.int .i64)) := by
    obtain ⟨x', e, k⟩ := h3 i hi
    rw [hx] at e
    cases e
    exact k
  have hxb := hxo.lt
  have htbx : some tb ≠ x.ownBlock := fun e => by have := hxb tb e.symm; omega
  have htlt := (Array.getElem?_eq_some_iff.1 h2).1
  have h2' : w'.heap[tb]? = some (.cells vs.toArray 25 (0, 0)) := (far_block hg htlt htbx).trans h2
  refine ⟨by simpa using h1, set_block h2' _, fun k hk => ?_, fun k l a b hkl ha hb => ?_⟩
  · by_cases hki : k = i
    · subst hki
      refine ⟨_, by rw [List.getElem?_set_self (by omega)], ?_⟩
      simp only [if_true]
      rw [List.map_append, List.length_append]
      exact ownsRow_setCell_below hown htb _
    · obtain ⟨z, hz, hzo⟩ := h3 k hk
      refine ⟨z, by rw [List.getElem?_set_ne (Ne.symm hki)]; exact hz, ?_⟩
      simp only [if_neg hki]
      exact ownsRow_setCell_below (((hzo.alloc o).drew).kept hg (h4 k i z x hki hz hx)) htb _
  · by_cases hki : k = i
    · subst hki
      rw [List.getElem?_set_self (by omega)] at ha
      cases ha
      have hlk : l ≠ k := Ne.symm hkl
      rw [List.getElem?_set_ne hkl] at hb
      right
      rcases hat with hat | hat
      · have := h4 k l x b hkl hx hb
        rcases this with h | h
        · rw [hat] at h; cases h
        · rw [hat] at h; exact h
      · simp only [Value.ownBlock]
        intro e
        have hln : l < n := by rw [← h1]; exact (List.getElem?_eq_some_iff.1 hb).1
        obtain ⟨b', hb', hbo⟩ := h3 l hln
        rw [hb] at hb'
        cases hb'
        have := hbo.lt g e.symm
        omega
    · rw [List.getElem?_set_ne (Ne.symm hki)] at ha
      by_cases hli : l = i
      · subst hli
        rw [List.getElem?_set_self (by omega)] at hb
        cases hb
        cases hao : a.ownBlock with
        | none => exact .inl rfl
        | some q =>
          right
          simp only [Value.ownBlock]
          intro e
          injection e with e
          have hkn : k < n := by rw [← h1]; exact (List.getElem?_eq_some_iff.1 ha).1
          obtain ⟨a', ha', hao'⟩ := h3 k hkn
          rw [ha] at ha'
          cases ha'
          have hq := hao'.lt q hao
          rcases hat with hat | hat
          · rcases h4 k l a x hkl ha hx with h | h
            · rw [hao] at h; cases h
            · apply h; rw [hao, hat, e]
          · omega
      · rw [List.getElem?_set_ne (Ne.symm hli)] at hb
        exact h4 k l a b hkl ha hb
end Go.Proofs.Ythbojpaghbbnnaa
