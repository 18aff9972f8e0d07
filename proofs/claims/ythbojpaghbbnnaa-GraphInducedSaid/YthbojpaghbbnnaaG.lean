/- Simple graphs in plain words: how many vertices, and who is whose neighbour. No program, no memory; no condition. -/
import Derived.Test.YthbojpaghbbnnaaA
namespace Go.Proofs.Ythbojpaghbbnnaa
set_option linter.unusedVariables false
set_option linter.unusedSimpArgs false

structure Gr where
  n : Nat
  adj : Nat → Nat → Bool
structure Gr.Ok (G : Gr) : Prop where
  symm : ∀ u v, G.adj u v = G.adj v u
  irr : ∀ u, G.adj u u = false
  rng : ∀ u v, G.adj u v = true → u < G.n
  small : G.n ≤ 16777216
theorem Gr.Ok.rng' {G : Gr} (h : G.Ok) {u v : Nat} (k : G.adj u v = true) : v < G.n := h.rng v u (by rw [← h.symm]; exact k)
/-- The neighbours of u, rising. -/
def Gr.nb (G : Gr) (u : Nat) : List Nat := (List.range G.n).filter (G.adj u)
def up (l : List Nat) : List Int := l.map (fun x : Nat => (x : Int))
theorem up_length (l : List Nat) : (up l).length = l.length := by simp [up]
theorem Gr.mem_nb {G : Gr} (h : G.Ok) {u v : Nat} : v ∈ G.nb u ↔ G.adj u v = true := by
  unfold Gr.nb
  rw [List.mem_filter, List.mem_range]
  exact ⟨fun h => h.2, fun k => ⟨h.rng' k, k⟩⟩
theorem Gr.nb_out {G : Gr} (h : G.Ok) {u : Nat} (hu : G.n ≤ u) : G.nb u = [] := by
  unfold Gr.nb
  rw [List.filter_eq_nil_iff]
  intro v _ k
  have := h.rng u v k
  omega
theorem Gr.nb_sorted (G : Gr) (u : Nat) : (G.nb u).Pairwise (· < ·) := List.Pairwise.filter _ List.pairwise_lt_range
theorem Gr.nb_nodup (G : Gr) (u : Nat) : (G.nb u).Nodup := List.Pairwise.imp (fun h => Nat.ne_of_lt h) (G.nb_sorted u)
theorem Gr.nb_length_le (G : Gr) (u : Nat) : (G.nb u).length ≤ G.n := by
  have := List.length_filter_le (G.adj u) (List.range G.n)
  simpa [Gr.nb] using this
/-- The edges, each once, the lesser vertex first, by rising first ones. -/
def Gr.pairs (G : Gr) : List (Nat × Nat) := (List.range G.n).flatMap (fun u => ((G.nb u).filter (fun v => decide (u < v))).map (fun v => (u, v)))
theorem Gr.mem_pairs {G : Gr} (h : G.Ok) {u v : Nat} : (u, v) ∈ G.pairs ↔ u < v ∧ G.adj u v = true := by
  unfold Gr.pairs
  simp only [List.mem_flatMap, List.mem_range, List.mem_map, List.mem_filter, Prod.mk.injEq]
  constructor
  · rintro ⟨a, ha, b, ⟨hb, hl⟩, rfl, rfl⟩
    exact ⟨by simpa using hl, (Gr.mem_nb h).1 hb⟩
  · rintro ⟨hl, hk⟩
    exact ⟨u, h.rng u v hk, v, ⟨(Gr.mem_nb h).2 hk, by simpa using hl⟩, rfl, rfl⟩
theorem nodup_map {α β : Type} {f : α → β} (hf : ∀ a b, f a = f b → a = b) {l : List α} (h : l.Nodup) : (l.map f).Nodup := by
  unfold List.Nodup at *
  rw [List.pairwise_map]
  exact h.imp (fun hne e => hne (hf _ _ e))
theorem Gr.pairs_nodup (G : Gr) : G.pairs.Nodup := by
  unfold Gr.pairs List.Nodup
  rw [List.pairwise_flatMap]
  refine ⟨fun u _ => ?_, ?_⟩
  · exact nodup_map (fun a b h => by injection h) ((G.nb_nodup u).filter _)
  · refine List.Pairwise.imp ?_ List.pairwise_lt_range
    intro a b hab p hp q hq
    simp only [List.mem_map] at hp hq
    obtain ⟨x, _, rfl⟩ := hp
    obtain ⟨y, _, rfl⟩ := hq
    intro e
    injection e with e1 e2
    omega
def Gr.edges (G : Gr) : Nat := G.pairs.length
/-- The list E of keys tells the edges of G. -/
def Tells (E : List (Int × Int)) (G : Gr) : Prop := E.Nodup ∧ ∀ a b : Int, (a, b) ∈ E ↔ ∃ u v : Nat, a = (u : Int) ∧ b = (v : Int) ∧ u < v ∧ G.adj u v = true
theorem perm_of_mem {α : Type} [DecidableEq α] {l k : List α} (h1 : l.Nodup) (h2 : k.Nodup) (h : ∀ x, x ∈ l ↔ x ∈ k) : l.Perm k := (List.perm_ext_iff_of_nodup h1 h2).2 h
theorem Tells.length {E : List (Int × Int)} {G : Gr} (hG : G.Ok) (h : Tells E G) : E.length = G.edges := by
  have : E.Perm (G.pairs.map (fun p => ((p.1 : Int), (p.2 : Int)))) := by
    refine perm_of_mem h.1 (nodup_map (fun a b e => by injection e with e1 e2; exact Prod.ext (by omega) (by omega)) G.pairs_nodup) (fun p => ?_)
    obtain ⟨a, b⟩ := p
    rw [h.2, List.mem_map]
    constructor
    · rintro ⟨u, v, rfl, rfl, hl, hk⟩
      exact ⟨(u, v), (Gr.mem_pairs hG).2 ⟨hl, hk⟩, rfl⟩
    · rintro ⟨⟨u, v⟩, hp, e⟩
      injection e with e1 e2
      have := (Gr.mem_pairs hG).1 hp
      exact ⟨u, v, e1.symm, e2.symm, this.1, this.2⟩
  rw [this.length_eq, List.length_map]
  rfl
end Go.Proofs.Ythbojpaghbbnnaa
