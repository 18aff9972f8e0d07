/- Rows of flags in memory, one block each, and rows that are appended in place: plain lemmas of pithlaw7.made's walk. No condition. -/
import Derived.Test.YthbojpaghbbnnaaHD
import Derived.Test.YthbojpaghbbnnaaE
namespace Go.Proofs.Ythbojpaghbbnnaa
open Go.RowKit
set_option linter.unusedVariables false
set_option linter.unusedSimpArgs false
theorem infoBools : (Try.prog.info? 24).map (fun i => (i.zero, i.size, i.bytes)) = some (some (.slice none 0 0), 1, 24) := by kernel_rfl
/-- Rows of n flags: block hb holds the slices, bs are the rows' blocks, M says what they hold. -/
structure Mat (w : World) (hb : Nat) (bs : List Nat) (n : Nat) (M : Nat → Nat → Bool) : Prop where
  top : w.heap[hb]? = some (.cells (bs.map (fun b => Value.slice (some ⟨b, 0, none⟩) n n) ++ List.replicate (n - bs.length) (Value.slice none 0 0)).toArray 24 (0, 0))
  le : bs.length ≤ n
  nd : bs.Nodup
  up : ∀ b ∈ bs, hb < b
  row : ∀ (v b : Nat), bs[v]? = some b → w.heap[b]? = some (.cells ((List.range n).map (fun u => Value.bool (M v u))).toArray 4 (0, 0))
theorem own_full {w : World} {b base n : Nat} {e : TypeId} {z : Value} (h : w.ownsRow base e 1 (.slice (some ⟨b, 0, none⟩) n n) n (List.replicate n z)) : w.heap[b]? = some (.cells (List.replicate n z).toArray e (0, 0)) := by
  rcases h.2 with ⟨h', _⟩ | ⟨g, cap, cur, h', _, hh, h1, h2, h3, h4⟩
  · cases h'
  · injection h' with e1 e2 e3
    injection e1 with e1
    injection e1 with e1
    subst e1
    subst e3
    rw [hh]
    have : cur.toList = List.replicate n z := by rw [← h4, List.take_of_length_le (by simp [h3])]
    rw [← this]
theorem Mat.start {w : World} {b base n : Nat} {M : Nat → Nat → Bool} (h : w.ownsRow base 24 1 (.slice (some ⟨b, 0, none⟩) n n) n (List.replicate n (.slice none 0 0))) : Mat w b [] n M :=
  ⟨by simpa using own_full h, by simp, by simp, by simp, by simp⟩
theorem Mat.frame {w w' : World} {hb n : Nat} {bs : List Nat} {M : Nat → Nat → Bool} (h : Mat w hb bs n M) (k : ∀ b, b = hb ∨ b ∈ bs → w'.heap[b]? = w.heap[b]?) : Mat w' hb bs n M :=
  ⟨(k _ (.inl rfl)).trans h.top, h.le, h.nd, h.up, fun v b e => (k _ (.inr (List.mem_of_getElem? e))).trans (h.row v b e)⟩
theorem Mat.lt {w : World} {hb n : Nat} {bs : List Nat} {M : Nat → Nat → Bool} (h : Mat w hb bs n M) : hb < w.heap.size ∧ ∀ b ∈ bs, b < w.heap.size := by
  refine ⟨(Array.getElem?_eq_some_iff.1 h.top).1, fun b hb => ?_⟩
  obtain ⟨v, e⟩ := List.getElem?_of_mem hb
  exact (Array.getElem?_eq_some_iff.1 (h.row v b e)).1
theorem Mat.push {w w1 : World} {hb n base : Nat} {bs : List Nat} (h : Mat w hb bs n (fun _ _ => false)) (hl : bs.length < n) (hg : w.grownBy w1 none)
    (ho : w1.ownsRow base 4 1 (.slice (some ⟨w.heap.size, 0, none⟩) n n) n (List.replicate n (.bool false))) :
    Mat (w1.setCell ⟨hb, bs.length, none⟩ (.slice (some ⟨w.heap.size, 0, none⟩) n n)) hb (bs ++ [w.heap.size]) n (fun _ _ => false) := by
  have hlt := h.lt
  have ht : w1.heap[hb]? = _ := (hg.block hb hlt.1 (by simp)).trans h.top
  have hne : ∀ b, b ≠ hb → (w1.setCell ⟨hb, bs.length, none⟩ (.slice (some ⟨w.heap.size, 0, none⟩) n n)).heap[b]? = w1.heap[b]? := fun b e => Below.heap_setCell _ _ _ _ e
  refine ⟨?_, by simp; omega, ?_, ?_, ?_⟩
  · rw [set_block ht]
    congr 3
    rw [List.set_append_right _ _ (by simp)]
    obtain ⟨q, hq⟩ : ∃ q, n - bs.length = q + 1 := ⟨n - bs.length - 1, by omega⟩
    simp only [List.map_append, List.length_map, Nat.sub_self, hq, List.replicate_succ, List.set_cons_zero, List.length_append, List.length_singleton, List.map_cons, List.map_nil, List.append_assoc, List.singleton_append, show n - (bs.length + 1) = q by omega]
  · refine List.nodup_append.2 ⟨h.nd, by simp, fun a ha b hb' => ?_⟩
    have := hlt.2 a ha
    rw [List.mem_singleton.1 hb']
    omega
  · intro b hb'
    rcases List.mem_append.1 hb' with hb' | hb'
    · exact h.up b hb'
    · rw [List.mem_singleton.1 hb']; exact hlt.1
  · intro v b e
    rcases Nat.lt_or_ge v bs.length with hv | hv
    · rw [List.getElem?_append_left hv] at e
      have hm := List.mem_of_getElem? e
      have := h.up b hm
      rw [hne b (by omega), hg.block b (hlt.2 b hm) (by simp)]
      exact h.row v b e
    · rw [List.getElem?_append_right hv] at e
      have e' := List.mem_of_getElem? e
      rw [List.mem_singleton] at e'
      subst e'
      rw [hne _ (by omega), own_full ho]
      congr 3
      apply List.ext_getElem <;> simp
theorem Mat.set {w : World} {hb n v b u : Nat} {bs : List Nat} {M : Nat → Nat → Bool} (h : Mat w hb bs n M) (hv : bs[v]? = some b) (hu : u < n) :
    Mat (w.setCell ⟨b, u, none⟩ (.bool true)) hb bs n (fun a c => if a = v ∧ c = u then true else M a c) := by
  have hm := List.mem_of_getElem? hv
  have hbb := h.up b hm
  refine ⟨(Below.heap_setCell _ _ _ _ (by simp; omega)).trans h.top, h.le, h.nd, h.up, fun v' b' e => ?_⟩
  by_cases hvv : v' = v
  · subst hvv
    rw [hv] at e
    cases e
    rw [set_block (h.row v' b hv)]
    congr 3
    apply List.ext_getElem
    · simp
    · intro i h1 h2
      simp only [List.length_set, List.length_map, List.length_range] at h1
      rw [List.getElem_set]
      by_cases hi : u = i
      · subst hi; simp
      · simp [hi, Ne.symm hi]
  · have hne : b' ≠ b := by
      intro e'
      subst e'
      have h1 := (List.getElem?_eq_some_iff.1 e)
      have h2 := (List.getElem?_eq_some_iff.1 hv)
      obtain ⟨h1, h1'⟩ := h1
      obtain ⟨h2, h2'⟩ := h2
      have P := List.pairwise_iff_getElem.1 h.nd
      rcases Nat.lt_or_gt_of_ne hvv with q | q
      · exact P v' v h1 h2 q (h1'.trans h2'.symm)
      · exact P v v' h2 h1 q (h2'.trans h1'.symm)
    rw [Below.heap_setCell _ _ _ _ (by simpa using hne), h.row v' b' e]
    simp only [hvv, false_and, if_false]
theorem Mat.row_at {w : World} {hb n v : Nat} {bs : List Nat} {M : Nat → Nat → Bool} (h : Mat w hb bs n M) (hl : bs.length = n) (hv : v < n) :
    ∃ b, bs[v]? = some b ∧ w.cell? ⟨hb, v, none⟩ = some (.slice (some ⟨b, 0, none⟩) n n) ∧ (∀ u, u < n → w.cell? ⟨b, u, none⟩ = some (.bool (M v u))) ∧ (∀ u, w.frozen? ⟨b, u, none⟩ = false) ∧ b < w.heap.size := by
  refine ⟨bs[v], by simp [hl, hv], ?_, ?_, ?_, ?_⟩
  · rw [cell_of h.top]
    simp [List.getElem?_append, hl, hv]
  · intro u hu
    rw [cell_of (h.row v bs[v] (by simp [hl, hv]))]
    simp [hu]
  · exact fun u => free_of (h.row v bs[v] (by simp [hl, hv])) u
  · exact h.lt.2 _ (by simp)
/-- One append to a row, the memory of what is appended made ahead of it. -/
theorem RowsAt.app2 {W w' : World} {base tb n i : Nat} {T : Nat → List Int} {y : Int} {x v1 : Value} {vs : List Value} (h : RowsAt W base tb n T vs)
    (hi : i < n) (hx : vs[i]? = some x) (htb : tb < base) (hbase : base ≤ W.heap.size)
    (hg : W.grownBy w' x.ownBlock)
    (hown : w'.ownsRow base 3 1 v1 ((T i).length + 1) ((T i).map (Value.int .i64) ++ [.int .i64 y]))
    (hat : v1.ownBlock = x.ownBlock ∨ ∃ b, v1.ownBlock = some b ∧ W.heap.size ≤ b) :
    RowsAt (w'.setCell ⟨tb, i, none⟩ v1) base tb n (fun k => if k = i then T i ++ [y] else T k) (vs.set i v1) := by
  obtain ⟨h1, h2, h3, h4⟩ := h
  have hxo : W.ownsRow base 3 1 x (T i).length ((T i).map (Value.int .i64)) := by
    obtain ⟨x', e, k⟩ := h3 i hi
    rw [hx] at e
    cases e
    exact k
  have hxb := hxo.lt
  have htbx : some tb ≠ x.ownBlock := fun e => by have := hxb tb e.symm; omega
  have htlt := (Array.getElem?_eq_some_iff.1 h2).1
  have h2' : w'.heap[tb]? = some (.cells vs.toArray 25 (0, 0)) := (hg.block tb htlt htbx).trans h2
  have far : ∀ (k : Nat) (a : Value), k ≠ i → vs[k]? = some a → a.ownBlock = none ∨ a.ownBlock ≠ v1.ownBlock := by
    intro k a hki ha
    rcases hat with hat | ⟨b, hb, hbs⟩
    · rw [hat]; exact h4 k i a x hki ha hx
    · cases hao : a.ownBlock with
      | none => exact .inl rfl
      | some q =>
        right
        rw [hb]
        intro e
        injection e with e
        have hkn : k < n := by rw [← h1]; exact (List.getElem?_eq_some_iff.1 ha).1
        obtain ⟨a', ha', hao'⟩ := h3 k hkn
        rw [ha] at ha'
        cases ha'
        have hq := hao'.lt q hao
        omega
  refine ⟨by simpa using h1, set_block h2' _, fun k hk => ?_, fun k l a b hkl ha hb => ?_⟩
  · by_cases hki : k = i
    · subst hki
      refine ⟨_, by rw [List.getElem?_set_self (by omega)], ?_⟩
      simp only [if_true]
      rw [List.map_append, List.length_append]
      exact ownsRow_setCell_below hown htb _
    · obtain ⟨z, hz, hzo⟩ := h3 k hk
      refine ⟨z, by rw [List.getElem?_set_ne (Ne.symm hki)]; exact hz, ?_⟩
      simp only [if_neg hki]
      exact ownsRow_setCell_below (hzo.kept hg (h4 k i z x hki hz hx)) htb _
  · by_cases hki : k = i
    · subst hki
      rw [List.getElem?_set_self (by omega)] at ha
      cases ha
      rw [List.getElem?_set_ne hkl] at hb
      rcases far l b (Ne.symm hkl) hb with h | h
      · rw [h]
        cases hv : v1.ownBlock with
        | none => exact .inl rfl
        | some q => exact .inr (by simp)
      · exact .inr (Ne.symm h)
    · rw [List.getElem?_set_ne (Ne.symm hki)] at ha
      by_cases hli : l = i
      · subst hli
        rw [List.getElem?_set_self (by omega)] at hb
        cases hb
        exact far k a hki ha
      · rw [List.getElem?_set_ne (Ne.symm hli)] at hb
        exact h4 k l a b hkl ha hb
theorem adj_snoc {n : Nat} {L : List (Int × Int)} {a b : Nat} (hab : a ≠ b) : (Gr.ofPairs n (L ++ [((a : Int), (b : Int))])).adj = fun p q => if p = b ∧ q = a then true else if p = a ∧ q = b then true else (Gr.ofPairs n L).adj p q := by
  funext p q
  simp only [Gr.ofPairs, List.any_append, List.any_cons, List.any_nil, Bool.or_false]
  by_cases h1 : p = b ∧ q = a
  · obtain ⟨rfl, rfl⟩ := h1
    simp [Ne.symm hab]
  · by_cases h2 : p = a ∧ q = b
    · obtain ⟨rfl, rfl⟩ := h2
      simp [hab]
    · rw [if_neg h1, if_neg h2]
      have e1 : (decide ((a : Int) = (p : Int)) && decide ((b : Int) = (q : Int))) = false := by
        simp; omega
      have e2 : (decide ((a : Int) = (q : Int)) && decide ((b : Int) = (p : Int))) = false := by
        simp; omega
      rw [e1, e2]
      simp
theorem adj_snoc_eq {n : Nat} {L : List (Int × Int)} {a : Int} : (Gr.ofPairs n (L ++ [(a, a)])).adj = (Gr.ofPairs n L).adj := by
  funext p q
  simp only [Gr.ofPairs, List.any_append, List.any_cons, List.any_nil, Bool.or_false]
  by_cases h : p = q
  · simp [h]
  · have e1 : (decide (a = (p : Int)) && decide (a = (q : Int))) = false := by simp; omega
    have e2 : (decide (a = (q : Int)) && decide (a = (p : Int))) = false := by simp; omega
    rw [e1, e2]
    simp
theorem filter_snoc (f : Nat → Bool) (u : Nat) : (List.range (u + 1)).filter f = (List.range u).filter f ++ if f u then [u] else [] := by
  rw [List.range_succ, List.filter_append]
  congr 1
  cases h : f u <;> simp [h]
end Go.Proofs.Ythbojpaghbbnnaa
