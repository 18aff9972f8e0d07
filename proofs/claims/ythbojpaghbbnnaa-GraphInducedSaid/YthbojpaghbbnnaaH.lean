/- The library's Sort and Clone of ints, in the words of these texts. No condition. -/
import Derived.Test.YthbojpaghbbnnaaShelf
import Derived.Test.YthbojpaghbbnnaaE
import Derived.Sort.OwnSortedInts
namespace Go.Proofs.Ythbojpaghbbnnaa
open Go.RowKit Go.Sort
set_option linter.unusedVariables false

def srt (xs : List Int) : List Int := xs.mergeSort fun x y => decide (x ≤ y)
theorem Sort_own (w : World) {base n : Nat} {v : Value} {xs : List Int} (h : w.ownsRow base 3 1 v n (xs.map (Value.int .i64))) (hb : xs.length < 4611686018427387904) :
    Calls Try.prog 144 #[v] w fun e w' => e = .returned (.tuple #[]) ∧ w'.ownsRow base 3 1 v n ((srt xs).map (Value.int .i64)) ∧ w.grownBy w' v.ownBlock := by
  have hn : n = xs.length := by have := h.1; simp at this; exact this.symm
  subst hn
  rcases h.2 with ⟨rfl, h0⟩ | ⟨g, cap, cur, rfl, hbase, hh, h1, h2, h3, h4⟩
  · have hx : xs = [] := List.eq_nil_of_length_eq_zero h0
    subst hx
    refine (Try.slices_Sort_int_none none 0 w).mono ?_
    rintro e w' ⟨rfl, rfl⟩
    exact ⟨rfl, by simpa [srt] using h, World.grownBy.refl _ _⟩
  · refine (Try.slices_Sort_int g 0 cap xs w (holds_of_blockI hh (by simpa using h4)) (Array.getElem?_eq_some_iff.1 hh).1 hb).mono ?_
    rintro e w' ⟨rfl, m, os, rfl⟩
    exact ⟨rfl, ownsRow_sortedI (by simp) hbase hh h1 h2 h3, grownBy_sortedI _⟩
theorem Clone_any (w : World) {lo hi : Nat} {v : Value} {xs : List Int} (h : Ints w lo hi v xs) (hb : xs.length * 8 ≤ 140737488355328) :
    Calls Try.prog 108 #[v] w fun e w' => Below w.heap.size w w' ∧ ∃ v', e = .returned v' ∧ w'.ownsRow w.heap.size 3 1 v' xs.length (xs.map (Value.int .i64)) := by
  obtain ⟨hl, A, c, rfl⟩ := h.form
  rcases Nat.eq_zero_or_pos xs.length with h0 | h0
  · have hx : xs = [] := List.eq_nil_of_length_eq_zero h0
    subst hx
    cases A with
    | none =>
      refine (Try.slices_Clone_int_nil 0 c w).mono ?_
      rintro e w' ⟨rfl, rfl⟩
      exact ⟨Below.refl _ _, _, rfl, World.ownsRow_nil _ _ _ _⟩
    | some a =>
      refine (Try.slices_Clone_int_zero a c w).mono ?_
      rintro e w' ⟨v', rfl, h1, _, h2⟩
      exact ⟨h2, v', rfl, h1⟩
  · obtain ⟨b, off, rfl, _, _, hc⟩ := h.all h0
    refine (Try.slices_Clone_int b off xs.length c xs w (Nat.le_refl _) hb (fun j hj => ?_)).mono ?_
    · rw [hc j hj, List.getD_eq_getElem?_getD, List.getElem?_eq_getElem hj]; rfl
    · rintro e w' ⟨v', rfl, h1, _, h2⟩
      rw [List.take_length] at h1
      exact ⟨h2, v', rfl, h1⟩
/-- Sorted, and of the same numbers: the same list. -/
theorem srt_eq {xs : List Int} {ys : List Nat} (h1 : xs.Nodup) (h2 : ys.Pairwise (· < ·)) (h : ∀ x, x ∈ xs ↔ ∃ y ∈ ys, x = (y : Int)) : srt xs = up ys := by
  have p1 : (srt xs).Perm xs := List.mergeSort_perm _ _
  have hn : (up ys).Nodup := nodup_map (fun a b e => by omega) (List.Pairwise.imp (fun h => Nat.ne_of_lt h) h2)
  have p2 : xs.Perm (up ys) := perm_of_mem h1 hn (fun x => by rw [h, up, List.mem_map]; exact ⟨fun ⟨y, hy, e⟩ => ⟨y, hy, e.symm⟩, fun ⟨y, hy, e⟩ => ⟨y, hy, e.symm⟩⟩)
  have s1 : (srt xs).Pairwise (fun a b => decide (a ≤ b) = true) := List.pairwise_mergeSort (by intro a b c; simp; omega) (by intro a b; simp; omega) xs
  have s2 : (up ys).Pairwise (fun a b => decide (a ≤ b) = true) := by
    unfold up
    rw [List.pairwise_map]
    exact h2.imp (fun h => by simp; omega)
  exact (p1.trans p2).eq_of_pairwise (fun a b _ _ h1 h2 => by simp at h1 h2; omega) s1 s2
end Go.Proofs.Ythbojpaghbbnnaa
