/- Graphs in plain words: degrees, arcs and edges counted. -/
import Derived.Test.YthbojpaghbbnnaaT
namespace Go.Proofs.Ythbojpaghbbnnaa
set_option linter.unusedVariables false
set_option linter.unusedSimpArgs false

theorem sum_zero {α : Type} (l : List α) : (l.map (fun _ => 0)).sum = 0 := by induction l <;> simp_all
theorem sum_add {α : Type} (l : List α) (f g : α → Nat) : (l.map (fun x => f x + g x)).sum = (l.map f).sum + (l.map g).sum := by
  induction l with
  | nil => rfl
  | cons a l ih => simp only [List.map_cons, List.sum_cons, ih]; omega
theorem countP_sum {α : Type} (l : List α) (f : α → Bool) : l.countP f = (l.map (fun x => if f x then 1 else 0)).sum := by
  induction l with
  | nil => rfl
  | cons a l ih => rw [List.countP_cons, List.map_cons, List.sum_cons, ih]; omega
theorem swap_count {α β : Type} (l : List α) (k : List β) (f : α → β → Bool) : (l.map (fun u => k.countP (f u))).sum = (k.map (fun v => l.countP (fun u => f u v))).sum := by
  induction l with
  | nil => simp [sum_zero]
  | cons a l ih =>
    rw [List.map_cons, List.sum_cons, ih, countP_sum, ← sum_add]
    congr 1
    apply List.map_congr_left
    intro v _
    rw [List.countP_cons]
    omega
def sumdeg (G : Gr) (k : Nat) : Nat := ((List.range k).map (fun u => (G.nb u).length)).sum
theorem sumdeg_succ (G : Gr) (k : Nat) : sumdeg G (k + 1) = sumdeg G k + (G.nb k).length := by simp [sumdeg, List.range_succ]
theorem sumdeg_le (G : Gr) (k : Nat) : sumdeg G k ≤ k * G.n := by
  induction k with
  | zero => simp [sumdeg]
  | succ k ih => rw [sumdeg_succ, Nat.succ_mul]; have := G.nb_length_le k; omega
theorem edges_sum (G : Gr) : G.edges = ((List.range G.n).map (fun u => (List.range G.n).countP (fun v => G.adj u v && decide (u < v)))).sum := by
  unfold Gr.edges Gr.pairs
  rw [List.length_flatMap]
  congr 1
  apply List.map_congr_left
  intro u _
  rw [List.length_map, Gr.nb, List.filter_filter, List.countP_eq_length_filter]
  congr 1
  apply List.filter_congr
  intro v _
  rw [Bool.and_comm]
theorem handshake {G : Gr} (hG : G.Ok) : sumdeg G G.n = 2 * G.edges := by
  have h1 : sumdeg G G.n = ((List.range G.n).map (fun u => (List.range G.n).countP (fun v => G.adj u v && decide (u < v)) + (List.range G.n).countP (fun v => G.adj u v && decide (v < u)))).sum := by
    unfold sumdeg
    congr 1
    apply List.map_congr_left
    intro u _
    rw [Gr.nb, ← List.countP_eq_length_filter]
    have : ∀ l : List Nat, l.countP (G.adj u) = l.countP (fun v => G.adj u v && decide (u < v)) + l.countP (fun v => G.adj u v && decide (v < u)) := by
      intro l
      induction l with
      | nil => rfl
      | cons a l ih =>
        rw [List.countP_cons, List.countP_cons, List.countP_cons, ih]
        cases hk : G.adj u a
        · simp
        · have hne : u ≠ a := fun e => by rw [e, hG.irr] at hk; cases hk
          rcases Nat.lt_or_gt_of_ne hne with h | h
          · simp [h, Nat.not_lt_of_gt h]; omega
          · simp [h, Nat.not_lt_of_gt h]; omega
    exact this _
  rw [h1, sum_add, ← edges_sum, swap_count (List.range G.n) (List.range G.n) (fun u v => G.adj u v && decide (v < u))]
  have h2 : ((List.range G.n).map (fun v => (List.range G.n).countP (fun u => G.adj u v && decide (v < u)))).sum = G.edges := by
    rw [edges_sum]
    congr 1
    apply List.map_congr_left
    intro v _
    congr 1
    funext u
    rw [hG.symm]
  rw [h2]
  omega
theorem arcs_length (G : Gr) : (G.arcs 0 G.n).length = sumdeg G G.n := by
  unfold Gr.arcs sumdeg
  rw [List.length_flatMap]
  have : seg G.n 0 G.n = List.range G.n := by
    unfold seg segL segF
    rw [show (min (G.n : Int) G.n - max (0 : Int) 0).toNat = G.n from by omega]
    simp
  rw [this]
  congr 1
  apply List.map_congr_left
  intro u _
  simp [rowA]
end Go.Proofs.Ythbojpaghbbnnaa
