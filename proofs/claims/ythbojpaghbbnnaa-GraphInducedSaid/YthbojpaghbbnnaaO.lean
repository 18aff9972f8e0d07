/- graph.of: the walk: of a map of edges it makes the graph of these edges. -/
import Derived.Test.YthbojpaghbbnnaaF
import Derived.Test.YthbojpaghbbnnaaH
namespace Go.Proofs.Ythbojpaghbbnnaa
open Go.RowKit Go.WideMaps Go.Maps
set_option linter.unusedVariables false
set_option linter.unusedSimpArgs false

/-- The graph of n vertices whose edges are told by E. -/
def Gr.ofE (n : Nat) (E : List (Int × Int)) : Gr := ⟨n, fun u v => decide ((((min u v : Nat) : Int), ((max u v : Nat) : Int)) ∈ E)⟩
def Edgy (n : Nat) (E : List (Int × Int)) : Prop := ∀ p ∈ E, 0 ≤ p.1 ∧ p.1 < p.2 ∧ p.2 < n
theorem ofE_ok {n : Nat} {E : List (Int × Int)} (hr : Edgy n E) (hn : n ≤ 16777216) : (Gr.ofE n E).Ok where
  symm u v := by simp only [Gr.ofE, Nat.min_comm u v, Nat.max_comm u v]
  irr u := by
    simp only [Gr.ofE, decide_eq_false_iff_not]
    intro h
    have := hr _ h
    simp only at this
    omega
  rng u v h := by
    simp only [Gr.ofE, decide_eq_true_eq] at h
    have := hr _ h
    simp only [Gr.ofE] at this ⊢
    omega
  small := hn
theorem ofE_tells {n : Nat} {E : List (Int × Int)} (hr : Edgy n E) (hd : E.Nodup) : Tells E (Gr.ofE n E) := by
  refine ⟨hd, fun a b => ⟨fun h => ?_, ?_⟩⟩
  · have := hr _ h
    simp only at this
    refine ⟨a.toNat, b.toNat, by omega, by omega, by omega, ?_⟩
    simp only [Gr.ofE, decide_eq_true_eq]
    rw [show ((min a.toNat b.toNat : Nat) : Int) = a from by omega, show ((max a.toNat b.toNat : Nat) : Int) = b from by omega]
    exact h
  · rintro ⟨u, v, rfl, rfl, hl, hk⟩
    simp only [Gr.ofE, decide_eq_true_eq] at hk
    rwa [show min u v = u from by omega, show max u v = v from by omega] at hk
theorem filled_nb {n : Nat} {E : List (Int × Int)} {T : Nat → List Int} (hr : Edgy n E) (hn : n ≤ 16777216) (h : Filled E [] n T) {i : Nat} (hi : i < n) : srt (T i) = up ((Gr.ofE n E).nb i) := by
  refine srt_eq (h i hi).1 (Gr.nb_sorted _ _) (fun x => ?_)
  rw [(h i hi).2]
  simp only [List.not_mem_nil, not_false_eq_true, and_true]
  have hG := ofE_ok hr hn
  have ht : ∀ a b : Int, (a, b) ∈ E → 0 ≤ a ∧ a < b ∧ b < n := fun a b h => hr _ h
  constructor
  · rintro (k | k)
    · have := ht _ _ k
      refine ⟨x.toNat, (Gr.mem_nb hG).2 ?_, by omega⟩
      simp only [Gr.ofE, decide_eq_true_eq]
      rw [show ((min i x.toNat : Nat) : Int) = i from by omega, show ((max i x.toNat : Nat) : Int) = x from by omega]
      exact k
    · have := ht _ _ k
      refine ⟨x.toNat, (Gr.mem_nb hG).2 ?_, by omega⟩
      simp only [Gr.ofE, decide_eq_true_eq]
      rw [show ((min i x.toNat : Nat) : Int) = x from by omega, show ((max i x.toNat : Nat) : Int) = i from by omega]
      exact k
  · rintro ⟨y, hy, rfl⟩
    have := (Gr.mem_nb hG).1 hy
    simp only [Gr.ofE, decide_eq_true_eq] at this
    have h2 := ht _ _ this
    rcases Nat.lt_trichotomy i y with h3 | h3 | h3
    · left
      rwa [show min i y = i from by omega, show max i y = y from by omega] at this
    · omega
    · right
      rwa [show min i y = y from by omega, show max i y = i from by omega] at this
theorem RowsAt.sorted {w w' : World} {base tb n i : Nat} {T : Nat → List Int} {vs : List Value} {x : Value} (h : RowsAt w base tb n T vs)
    (hx : vs[i]? = some x) (htb : tb < base) (hg : w.grownBy w' x.ownBlock) (hown : w'.ownsRow base 3 1 x (T i).length ((srt (T i)).map (Value.int .i64))) (hi : i < n) :
    RowsAt w' base tb n (fun k => if k = i then srt (T i) else T k) vs := by
  obtain ⟨h1, h2, h3, h4⟩ := h
  obtain ⟨x', e, hxo⟩ := h3 i hi
  rw [hx] at e
  cases e
  refine ⟨h1, (hg.block tb (Array.getElem?_eq_some_iff.1 h2).1 (fun e => by have := hxo.lt tb e.symm; omega)).trans h2, fun k hk => ?_, h4⟩
  by_cases hki : k = i
  · subst hki
    refine ⟨x, hx, ?_⟩
    simp only [if_true]
    have : (srt (T k)).length = (T k).length := by simp [srt]
    rw [this]
    exact hown
  · obtain ⟨z, hz, hzo⟩ := h3 k hk
    refine ⟨z, hz, ?_⟩
    simp only [if_neg hki]
    exact hzo.kept hg (h4 k i z x hki hz hx)
/-- The loop over the map. -/
structure OfInv (w : World) (n m gb tb r base : Nat) (E : List (Int × Int)) (wr : World) (L : List (Int × Int)) (T : Nat → List Int) : Prop where
  bel : Below w.heap.size w wr
  rng : Rng wr m r L
  gbk : wr.heap[gb]? = some (.cells #[.int .i64 (n : Int), .map (some m), .slice (some ⟨tb, 0, none⟩) n n] 119 (0, 0))
  sub : ∀ p ∈ L, p ∈ E
  le : base ≤ wr.heap.size
  rows : OwnRows wr base tb n T
  fill : Filled E L n T
theorem rows_start {w1 : World} {b base n : Nat} (hb : b < base) (h : w1.ownsRow b 25 1 (.slice (some ⟨b, 0, none⟩) n n) n (List.replicate n (.slice none 0 0))) : OwnRows w1 base b n (fun _ => []) := by
  rcases h.2 with ⟨h', _⟩ | ⟨g, cap, cur, h', _, hh, h1, h2, h3, h4⟩
  · cases h'
  · injection h' with e1 e2 e3
    injection e1 with e1
    injection e1 with e1
    subst e1
    subst e3
    refine ⟨List.replicate n (.slice none 0 0), by simp, ?_, fun i hi => ⟨.slice none 0 0, by simp [List.getElem?_replicate, hi], World.ownsRow_nil _ _ _ _⟩, fun i j x y _ hx _ => ?_⟩
    · rw [hh]
      have : cur.toList = List.replicate n (.slice none 0 0) := by rw [← h4, List.take_of_length_le (by simp [h3])]
      rw [← this]
    · left
      have := List.mem_of_getElem? hx
      rw [List.eq_of_mem_replicate this]
      rfl
end Go.Proofs.Ythbojpaghbbnnaa
