/- graph.of: the graph of a map of edges. Plain lemmas first, then the walk. -/
import Derived.Test.YthbojpaghbbnnaaE
namespace Go.Proofs.Ythbojpaghbbnnaa
open Go.RowKit Go.WideMaps Go.Maps
set_option linter.unusedVariables false
set_option linter.unusedSimpArgs false

/-- What the rows hold when all of E but L has been gone through. -/
def Filled (E L : List (Int × Int)) (n : Nat) (T : Nat → List Int) : Prop :=
  ∀ i, i < n → (T i).Nodup ∧ ∀ x, x ∈ T i ↔ (((i : Int), x) ∈ E ∧ ((i : Int), x) ∉ L) ∨ ((x, (i : Int)) ∈ E ∧ (x, (i : Int)) ∉ L)
theorem filled_start (E : List (Int × Int)) (n : Nat) : Filled E E n (fun _ => []) := by
  intro i hi
  refine ⟨List.nodup_nil, fun x => ?_⟩
  simp
theorem nodup_bound {l : List Int} {n : Nat} (h : l.Nodup) (hb : ∀ x ∈ l, 0 ≤ x ∧ x < n) : l.length ≤ n := by
  have h1 : (l.map Int.toNat).Nodup := by
    unfold List.Nodup at *
    rw [List.pairwise_map]
    refine List.Pairwise.imp_of_mem ?_ h
    intro a b ha hb' hne e
    have := hb a ha
    have := hb b hb'
    omega
  have h2 : (l.map Int.toNat).Perm ((List.range n).filter (fun k => decide (k ∈ l.map Int.toNat))) := by
    refine perm_of_mem h1 (List.Pairwise.filter _ List.nodup_range) (fun x => ?_)
    rw [List.mem_filter, List.mem_range, decide_eq_true_eq]
    refine ⟨fun hx => ⟨?_, hx⟩, fun hx => hx.2⟩
    obtain ⟨y, hy, rfl⟩ := List.mem_map.1 hx
    have := hb y hy
    omega
  have h3 := h2.length_eq
  have h4 := List.length_filter_le (fun k => decide (k ∈ l.map Int.toNat)) (List.range n)
  rw [List.length_range] at h4
  rw [List.length_map] at h3
  omega
theorem Filled.bound {E L : List (Int × Int)} {n : Nat} {T : Nat → List Int} (h : Filled E L n T) (hr : ∀ p ∈ E, 0 ≤ p.1 ∧ p.1 < p.2 ∧ p.2 < n) {i : Nat} (hi : i < n) : (T i).length ≤ n := by
  refine nodup_bound (h i hi).1 (fun x hx => ?_)
  rcases ((h i hi).2 x).1 hx with k | k
  · have := hr _ k.1
    simp only at this
    omega
  · have := hr _ k.1
    simp only at this
    omega
theorem Filled.step {E L : List (Int × Int)} {n : Nat} {T : Nat → List Int} (h : Filled E L n T) (hr : ∀ p ∈ E, 0 ≤ p.1 ∧ p.1 < p.2 ∧ p.2 < n) {i j : Nat} (hij : i < j) (hjn : j < n) (hp : ((i : Int), (j : Int)) ∈ L) (hs : ∀ p ∈ L, p ∈ E) :
    Filled E (less L ((i : Int), (j : Int))) n (fun k => if k = j then (fun k => if k = i then T i ++ [(j : Int)] else T k) j ++ [(i : Int)] else (fun k => if k = i then T i ++ [(j : Int)] else T k) k) := by
  intro k hk
  have hE := hs _ hp
  have hno : ∀ a b : Int, (a, b) ∈ E → a < b := fun a b hab => (hr _ hab).2.1
  obtain ⟨hn, hm⟩ := h k hk
  have hmem : ∀ a b : Int, (a, b) ∉ less L ((i : Int), (j : Int)) ↔ (a, b) ∉ L ∨ (a = i ∧ b = j) := by
    intro a b
    rw [mem_less]
    simp only [ne_eq, Prod.mk.injEq]
    constructor
    · intro h0
      by_cases h1 : (a, b) ∈ L
      · right
        by_cases h2 : a = i ∧ b = j
        · exact h2
        · exact absurd ⟨h1, h2⟩ h0
      · exact .inl h1
    · rintro (h0 | h0) h1
      · exact h0 h1.1
      · exact h1.2 h0
  have hne : j ≠ i := by omega
  by_cases hkj : k = j
  · subst hkj
    simp only [if_true, if_neg hne]
    refine ⟨?_, fun x => ?_⟩
    · rw [List.nodup_append]
      refine ⟨hn, by simp, fun a ha b hb => ?_⟩
      have hb' : b = (i : Int) := by simpa using hb
      subst hb'
      intro e
      subst e
      rcases (hm _).1 ha with q | q
      · have := hno _ _ q.1; omega
      · exact q.2 hp
    · rw [List.mem_append, hm, hmem, hmem]
      constructor
      · rintro (q | q)
        · rcases q with q | q
          · exact .inl ⟨q.1, .inl q.2⟩
          · exact .inr ⟨q.1, .inl q.2⟩
        · have : x = (i : Int) := by simpa using q
          subst this
          exact .inr ⟨hE, .inr ⟨rfl, rfl⟩⟩
      · rintro (⟨q1, q2⟩ | ⟨q1, q2⟩)
        · rcases q2 with q2 | q2
          · exact .inl (.inl ⟨q1, q2⟩)
          · have := hno _ _ q1; omega
        · rcases q2 with q2 | q2
          · exact .inl (.inr ⟨q1, q2⟩)
          · right; simp [q2.1]
  · simp only [if_neg hkj]
    by_cases hki : k = i
    · subst hki
      simp only [if_true]
      refine ⟨?_, fun x => ?_⟩
      · rw [List.nodup_append]
        refine ⟨hn, by simp, fun a ha b hb => ?_⟩
        have hb' : b = (j : Int) := by simpa using hb
        subst hb'
        intro e
        subst e
        rcases (hm _).1 ha with q | q
        · exact q.2 hp
        · have := hno _ _ q.1; omega
      · rw [List.mem_append, hm, hmem, hmem]
        constructor
        · rintro (q | q)
          · rcases q with q | q
            · exact .inl ⟨q.1, .inl q.2⟩
            · exact .inr ⟨q.1, .inl q.2⟩
          · have : x = (j : Int) := by simpa using q
            subst this
            exact .inl ⟨hE, .inr ⟨rfl, rfl⟩⟩
        · rintro (⟨q1, q2⟩ | ⟨q1, q2⟩)
          · rcases q2 with q2 | q2
            · exact .inl (.inl ⟨q1, q2⟩)
            · right; simp [q2.2]
          · rcases q2 with q2 | q2
            · exact .inl (.inr ⟨q1, q2⟩)
            · have := hno _ _ q1; omega
    · simp only [if_neg hki]
      refine ⟨hn, fun x => ?_⟩
      rw [hm, hmem, hmem]
      constructor
      · rintro (q | q)
        · exact .inl ⟨q.1, .inl q.2⟩
        · exact .inr ⟨q.1, .inl q.2⟩
      · rintro (⟨q1, q2⟩ | ⟨q1, q2⟩)
        · rcases q2 with q2 | q2
          · exact .inl ⟨q1, q2⟩
          · omega
        · rcases q2 with q2 | q2
          · exact .inr ⟨q1, q2⟩
          · omega
end Go.Proofs.Ythbojpaghbbnnaa
