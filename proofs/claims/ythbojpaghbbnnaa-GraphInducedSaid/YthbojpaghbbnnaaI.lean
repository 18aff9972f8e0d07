/- Rows that the call has made itself: read, stored into, shortened. Plain laws; no program but for the element type's number. -/
import Derived.Test.YthbojpaghbbnnaaA
namespace Go.Proofs.Ythbojpaghbbnnaa
open Go.RowKit
set_option linter.unusedVariables false
set_option linter.unusedSimpArgs false
section
variable {α : Type} {f : α → Value} {w : World} {base : Nat} {e : TypeId} {v : Value} {xs : List α}
/-- A row that the call owns: elements of one cell. -/
def Own1 (w : World) (base : Nat) (e : TypeId) (f : α → Value) (v : Value) (xs : List α) : Prop := w.ownsRow base e 1 v xs.length (xs.map f)
theorem Own1.nil (w : World) (base : Nat) (e : TypeId) (f : α → Value) : Own1 w base e f (.slice none 0 0) [] := World.ownsRow_nil w base e 1
theorem Own1.kept {w' : World} {row : Option Nat} (h : Own1 w base e f v xs) (hg : w.grownBy w' row) (hne : v.ownBlock = none ∨ v.ownBlock ≠ row) : Own1 w' base e f v xs := World.ownsRow.kept h hg hne
theorem Own1.alloc (h : Own1 w base e f v xs) (o : Obj) : Own1 (w.alloc o) base e f v xs := World.ownsRow.alloc h o
theorem Own1.drewN (h : Own1 w base e f v xs) (n : Nat) : Own1 (w.drewN n) base e f v xs := h
theorem Own1.below {w' : World} (h : Own1 w base e f v xs) (hb : Below w.heap.size w w') : Own1 w' base e f v xs := Own1.kept h (grown_of_below hb none) (by cases v.ownBlock <;> simp)
theorem Own1.lower {b' : Nat} (h : Own1 w base e f v xs) (hb : b' ≤ base) : Own1 w b' e f v xs := ownsRow_mono h hb
theorem Own1.sl (h : Own1 w base e f v xs) : Sl1 w base w.heap.size f v xs := Sl1.own h
theorem Own1.form (h : Own1 w base e f v xs) : xs.length ≤ 9223372036854775807 ∧ ∃ A c, v = .slice A xs.length c := h.sl.form
theorem Own1.ne {b : Nat} (h : Own1 w base e f v xs) (hb : b < base) : v.ownBlock ≠ some b := fun k => by have := (World.ownsRow.lt h b k).1; omega
theorem Own1.lt {b : Nat} (h : Own1 w base e f v xs) (hb : v.ownBlock = some b) : base ≤ b ∧ b < w.heap.size := World.ownsRow.lt h b hb
theorem Own1.get {A : Option Addr} {n c : Nat} (h : Own1 w base e f (.slice A n c) xs) (k : Nat) (hk : k < xs.length) :
    ∃ g x, A = some ⟨g, 0, none⟩ ∧ base ≤ g ∧ g < w.heap.size ∧ w.cell? ⟨g, k, none⟩ = some (f x) ∧ w.frozen? ⟨g, k, none⟩ = false ∧ Hid (xs[k]? = some x) := by
  rcases h.2 with ⟨h1, h2⟩ | ⟨g, cap, cur, h1, hb, hg, hn, hc, hs, ht⟩
  · omega
  · injection h1 with h1 h3 h4
    obtain ⟨x, hx⟩ : ∃ x, xs[k]? = some x := ⟨_, List.getElem?_eq_getElem hk⟩
    refine ⟨g, x, h1, hb, (Array.getElem?_eq_some_iff.1 hg).1, ?_, by simp [World.frozen?, hg], hx⟩
    have h5 : (cur.toList.take (xs.length * 1))[k]? = some (f x) := by rw [ht, List.getElem?_map, hx]; rfl
    rw [List.getElem?_take_of_lt (by omega)] at h5
    simp only [World.cell?, hg]
    simpa using h5
theorem Own1.cap {A : Option Addr} {n c : Nat} (h : Own1 w base e f (.slice A n c) xs) : xs.length ≤ c ∧ c ≤ 9223372036854775807 := by
  rcases h.2 with ⟨h1, h2⟩ | ⟨g, cap, cur, h1, hb, hg, hn, hc, hs, ht⟩
  · injection h1 with h1 h3 h4
    subst h4
    exact ⟨by omega, by omega⟩
  · injection h1 with h1 h3 h4
    subst h4
    exact ⟨hn, by simpa [maxLen] using hc⟩
theorem grown_set (w : World) (a : Addr) (u : Value) : w.grownBy (w.setCell a u) (some a.block) :=
  ⟨by simp [World.setCell], by simp [World.setCell], by simp [World.setCell], by rw [size_setCell]; exact Nat.le_refl _, fun k _ hne => Below.heap_setCell w a u k (fun e => hne (by rw [e]))⟩
theorem Own1.set {g n c : Nat} (h : Own1 w base e f (.slice (some ⟨g, 0, none⟩) n c) xs) (k : Nat) (hk : k < xs.length) (y : α) :
    Own1 (w.setCell ⟨g, k, none⟩ (f y)) base e f (.slice (some ⟨g, 0, none⟩) n c) (xs.set k y) := by
  rcases h.2 with ⟨h1, h2⟩ | ⟨g', cap, cur, h1, hb, hg, hn, hc, hs, ht⟩
  · omega
  · injection h1 with h1 h3 h4
    have e1 : g = g' := by injection h1 with h1; injection h1
    subst e1 h4
    have hblock : (w.setCell ⟨g, k, none⟩ (f y)).heap[g]? = some (.cells (cur.setIfInBounds k (f y)) e (0, 0)) := by
      have h0 : w.heap[g]? = some (.cells cur.toList.toArray e (0, 0)) := by simpa using hg
      simp only [World.setCell]
      have hlt := (Array.getElem?_eq_some_iff.1 hg).1
      rw [Array.getElem?_modify]
      simp [hg]
    refine ⟨by simp, .inr ⟨g, c, cur.setIfInBounds k (f y), by rw [h3]; simp, hb, hblock, by simpa using hn, hc, by simpa using hs, ?_⟩⟩
    rw [Array.toList_setIfInBounds, List.length_set, List.take_set, ht, List.map_set]
theorem Own1.pop {A : Option Addr} {n c : Nat} {x : α} (h : Own1 w base e f (.slice A n c) (xs ++ [x])) : Own1 w base e f (.slice A xs.length c) xs := by
  rcases h.2 with ⟨h1, h2⟩ | ⟨g, cap, cur, h1, hb, hg, hn, hc, hs, ht⟩
  · simp at h2
  · injection h1 with h1 h3 h4
    subst h4
    refine ⟨by simp, .inr ⟨g, c, cur, by rw [h1], hb, hg, by simp at hn; omega, hc, hs, ?_⟩⟩
    have h5 := congrArg (List.take (xs.length * 1)) ht
    rw [List.take_take] at h5
    rw [show min (xs.length * 1) ((xs ++ [x]).length * 1) = xs.length * 1 from by simp] at h5
    rw [h5, List.map_append, List.take_left' (by simp)]
end
theorem get_set_eq {α : Type} {xs : List α} {k : Nat} (y : α) (hk : k < xs.length) : (xs.set k y)[k]? = some y := by simp [hk]
theorem get_set_ne {α : Type} {xs : List α} {k j : Nat} (y : α) (h : k ≠ j) : (xs.set k y)[j]? = xs[j]? := by rw [List.getElem?_set_ne h]
end Go.Proofs.Ythbojpaghbbnnaa
