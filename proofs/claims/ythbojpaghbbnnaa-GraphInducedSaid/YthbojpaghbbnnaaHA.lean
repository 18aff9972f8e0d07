/- Package hindex: tally, low, H. -/
import Derived.Test.YthbojpaghbbnnaaI
import Derived.Test.YthbojpaghbbnnaaD
import Derived.Test.YthbojpaghbbnnaaHC
namespace Go.Proofs.Ythbojpaghbbnnaa
open Go.RowKit
set_option linter.unusedVariables false
set_option linter.unusedSimpArgs false
/-- A number brought between 0 and m. -/
def clampN (m : Nat) (x : Int) : Nat := (max 0 (min x (m : Int))).toNat
theorem clampN_le (m : Nat) (x : Int) : clampN m x ≤ m := by unfold clampN; omega
def bins (m : Nat) (xs : List Int) : List Int := (List.range (m + 1)).map (fun k => ((xs.countP (fun x => decide (clampN m x = k)) : Nat) : Int))
theorem bins_len (m : Nat) (xs : List Int) : (bins m xs).length = m + 1 := by simp [bins]
theorem bins_get (m : Nat) (xs : List Int) (k : Nat) (hk : k ≤ m) : (bins m xs)[k]? = some ((xs.countP (fun x => decide (clampN m x = k)) : Nat) : Int) := by
  rw [bins, List.getElem?_map, List.getElem?_range (by omega)]
  rfl
theorem bins_snoc (m : Nat) (xs : List Int) (x : Int) : bins m (xs ++ [x]) = (bins m xs).set (clampN m x) (((xs.countP (fun y => decide (clampN m y = clampN m x)) : Nat) : Int) + 1) := by
  refine List.ext_getElem? (fun k => ?_)
  rw [List.getElem?_set]
  by_cases hk : k ≤ m
  · rw [bins_get m _ k hk, List.countP_append]
    by_cases e : clampN m x = k
    · subst e
      rw [if_pos rfl, if_pos (by rw [bins_len]; omega)]
      simp
    · rw [if_neg e, bins_get m _ k hk]
      simp [e]
  · rw [List.getElem?_eq_none (by rw [bins_len]; omega)]
    split
    · rename_i e
      have := clampN_le m x
      omega
    · rw [List.getElem?_eq_none (by rw [bins_len]; omega)]
theorem bins_nil (m : Nat) : bins m [] = List.replicate (m + 1) 0 := by
  refine List.ext_getElem? (fun k => ?_)
  by_cases hk : k ≤ m
  · rw [bins_get m _ k hk, List.getElem?_replicate, if_pos (by omega)]
    rfl
  · rw [List.getElem?_eq_none (by rw [bins_len]; omega), List.getElem?_eq_none (by simp; omega)]
abbrev cellsI (l : List Int) : Array Value := (l.map (Value.int .i64)).toArray
/-- The array of sizes lies in the call's first block. -/
def Tal (w wr : World) (xs : List Int) : Prop := Below w.heap.size w wr ∧ wr.heap[w.heap.size]? = some (.cells (cellsI (bins 15 xs)) 134 (0, 0)) ∧ wr.heap[w.heap.size + 1]? = some (.cells (cellsI (List.replicate 16 0)) 134 (0, 0))
theorem Tal.snoc {w wr : World} {xs : List Int} (h : Tal w wr xs) {x : Int} {i : Nat} {n : Int} (hi : clampN 15 x = i) (hn : (bins 15 xs)[i]? = some n) : Tal w (wr.setCell ⟨w.heap.size, i, none⟩ (.int .i64 (n + 1))) (xs ++ [x]) := by
  obtain ⟨h1, h2, h3⟩ := h
  have hle := clampN_le 15 x
  have hlt : w.heap.size < wr.heap.size := (Array.getElem?_eq_some_iff.1 h2).1
  refine ⟨h1.setCell (Nat.le_refl _) _, ?_, ?_⟩
  · have e : cellsI (bins 15 (xs ++ [x])) = (cellsI (bins 15 xs)).setIfInBounds i (.int .i64 (n + 1)) := by
      have e1 : n = ((xs.countP (fun y => decide (clampN 15 y = clampN 15 x)) : Nat) : Int) := by
        rw [← hi, bins_get 15 xs _ hle] at hn
        injection hn with hn
        exact hn.symm
      rw [bins_snoc, hi, ← hi, ← e1]
      simp [cellsI, List.map_set]
    rw [e]
    simp [World.setCell, Array.getElem?_modify, h2]
  · rw [Below.heap_setCell wr _ _ _ (by simp)]
    exact h3
theorem bins_at (m : Nat) (xs : List Int) (k : Nat) (hk : k ≤ m) : ∃ n : Nat, (bins m xs)[k]? = some (n : Int) ∧ n ≤ xs.length := ⟨_, bins_get m xs k hk, List.countP_le_length⟩
theorem sixteen (l : List Int) (h : l.length = 16) : ∃ n0 n1 n2 n3 n4 n5 n6 n7 n8 n9 n10 n11 n12 n13 n14 n15 : Int, l = [n0, n1, n2, n3, n4, n5, n6, n7, n8, n9, n10, n11, n12, n13, n14, n15] := by
  match l, h with
  | [n0, n1, n2, n3, n4, n5, n6, n7, n8, n9, n10, n11, n12, n13, n14, n15], _ => exact ⟨n0, n1, n2, n3, n4, n5, n6, n7, n8, n9, n10, n11, n12, n13, n14, n15, rfl⟩
theorem set_cells {w : World} {b i : Nat} {l : List Int} {t : TypeId} (h : w.heap[b]? = some (.cells (cellsI l) t (0, 0))) (y : Int) : (w.setCell ⟨b, i, none⟩ (.int .i64 y)).heap[b]? = some (.cells (cellsI (l.set i y)) t (0, 0)) := by
  simp [World.setCell, Array.getElem?_modify, h, cellsI, List.map_set]
set_option maxRecDepth 100000 in
theorem sets16 {w : World} {b : Nat} {l : List Int} (hl : l.length = 16) {t : TypeId} (h : w.heap[b]? = some (.cells (cellsI l) t (0, 0))) (m0 m1 m2 m3 m4 m5 m6 m7 m8 m9 m10 m11 m12 m13 m14 m15 : Int) : ((((((((((((((((w.setCell ⟨b, 0, none⟩ (.int .i64 m0)).setCell ⟨b, 1, none⟩ (.int .i64 m1)).setCell ⟨b, 2, none⟩ (.int .i64 m2)).setCell ⟨b, 3, none⟩ (.int .i64 m3)).setCell ⟨b, 4, none⟩ (.int .i64 m4)).setCell ⟨b, 5, none⟩ (.int .i64 m5)).setCell ⟨b, 6, none⟩ (.int .i64 m6)).setCell ⟨b, 7, none⟩ (.int .i64 m7)).setCell ⟨b, 8, none⟩ (.int .i64 m8)).setCell ⟨b, 9, none⟩ (.int .i64 m9)).setCell ⟨b, 10, none⟩ (.int .i64 m10)).setCell ⟨b, 11, none⟩ (.int .i64 m11)).setCell ⟨b, 12, none⟩ (.int .i64 m12)).setCell ⟨b, 13, none⟩ (.int .i64 m13)).setCell ⟨b, 14, none⟩ (.int .i64 m14)).setCell ⟨b, 15, none⟩ (.int .i64 m15)).heap[b]? = some (.cells (cellsI [m0, m1, m2, m3, m4, m5, m6, m7, m8, m9, m10, m11, m12, m13, m14, m15]) t (0, 0)) := by
  obtain ⟨n0, n1, n2, n3, n4, n5, n6, n7, n8, n9, n10, n11, n12, n13, n14, n15, rfl⟩ := sixteen l hl
  exact set_cells (set_cells (set_cells (set_cells (set_cells (set_cells (set_cells (set_cells (set_cells (set_cells (set_cells (set_cells (set_cells (set_cells (set_cells (set_cells (h) _) _) _) _) _) _) _) _) _) _) _) _) _) _) _) _
set_option maxRecDepth 100000 in
set_option maxHeartbeats 4000000 in
theorem tally_any (w : World) {lo hi : Nat} {v : Value} {xs : List Int} (h : Ints w lo hi v xs) (hl : xs.length ≤ 4611686018427387904) :
    Calls Try.prog 128 #[v, .agg (cellsI (List.replicate 16 0))] w fun e w' => e = .returned (.agg (cellsI (bins 15 xs))) ∧ Below w.heap.size w w' := by
  obtain ⟨_, A, c, rfl⟩ := h.form
  have H := Lib.hid h
  clear h
  go_enter Try.func128, Try.ntmps128
  go_wp2
  go_loopg [9] xs.length (fun g s wr => ∃ k : Nat, g + k = xs.length ∧ s = .int .i64 k ∧ Hid (Tal w wr (xs.take k)))
  case atStart =>
    refine ⟨0, rfl, rfl, ((Below.refl _ _).alloc (Nat.le_refl _) _).alloc (by simp) _, ?_, ?_⟩
    · rw [List.take_zero, bins_nil]
      exact (Below.heap_alloc _ _ _ (by simp)).trans (heap_alloc_new _ _)
    · have := heap_alloc_new (w.alloc (.cells (cellsI (List.replicate 16 0)) 134)) (.cells (cellsI (List.replicate 16 0)) 134)
      rw [show (w.alloc (.cells (cellsI (List.replicate 16 0)) 134)).heap.size = w.heap.size + 1 by simp] at this
      exact this
  case round =>
    obtain ⟨k, hk, rfl, HI⟩ := hrel
    have HK := Lib.hid hk
    clear hk
    by_cases hlt : k < xs.length
    · obtain ⟨b, off, x, rfl, _, hb, g0, HX⟩ := H.out.get k hlt
      have g1 := (HI.out.1.cell (p := ⟨b, off + k, none⟩) (Nat.lt_of_lt_of_le hb H.out.1)).trans g0
      have ht : xs.take (k + 1) = xs.take k ++ [x] := by rw [List.take_add_one, HX.out]; rfl
      have HT := Lib.hid ht
      clear ht g0
      have fin : ∀ (i : Nat) (n : Nat), clampN 15 x = i → (bins 15 (xs.take k))[i]? = some (n : Int) → Hid (Tal w (wr.setCell ⟨w.heap.size, i, none⟩ (.int .i64 ((n : Int) + 1))) (xs.take (k + 1))) := fun i n h1 h2 => by
        rw [HT.out]
        exact HI.out.snoc h1 h2
      have FIN := Lib.hid fin
      clear fin
      by_cases hx1 : 15 < x
      · obtain ⟨n, hn, hnl⟩ := bins_at 15 (xs.take k) 15 (Nat.le_refl _)
        have hnl2 : n ≤ 4611686018427387904 := by rw [List.length_take] at hnl; omega
        have c1 : wr.cell? ⟨w.heap.size, 15, none⟩ = some (.int .i64 (n : Int)) := by rw [cell_of HI.out.2.1 15]; simp [hn]
        have f1 := free_of HI.out.2.1 15
        have HN := Lib.hid hn
        clear hn hnl
        go_wp2
        go_roundg (xs.length - (k + 1))
        case measure => have := HK.out; omega
        case rel => exact ⟨k + 1, by omega, by go_num, FIN.out 15 n (by unfold clampN; omega) HN.out⟩
      · by_cases hx0 : x ≤ 0
        · obtain ⟨n, hn, hnl⟩ := bins_at 15 (xs.take k) 0 (Nat.zero_le _)
          have hnl2 : n ≤ 4611686018427387904 := by rw [List.length_take] at hnl; omega
          have c1 : wr.cell? ⟨w.heap.size, 0, none⟩ = some (.int .i64 (n : Int)) := by rw [cell_of HI.out.2.1 0]; simp [hn]
          have f1 := free_of HI.out.2.1 0
          have HN := Lib.hid hn
          clear hn hnl
          go_wp2
          go_roundg (xs.length - (k + 1))
          case measure => have := HK.out; omega
          case rel => exact ⟨k + 1, by omega, by go_num, FIN.out 0 n (by unfold clampN; omega) HN.out⟩
        · obtain ⟨y, rfl⟩ := Int.eq_ofNat_of_zero_le (show 0 ≤ x by omega)
          have hy : y ≤ 15 := by omega
          have hy0 : 0 < y := by omega
          obtain ⟨n, hn, hnl⟩ := bins_at 15 (xs.take k) y hy
          have hnl2 : n ≤ 4611686018427387904 := by rw [List.length_take] at hnl; omega
          have c1 : wr.cell? ⟨w.heap.size, y, none⟩ = some (.int .i64 (n : Int)) := by rw [cell_of HI.out.2.1 y]; simp [hn]
          have f1 := free_of HI.out.2.1 y
          have HN := Lib.hid hn
          clear hn hnl
          go_wp2
          go_roundg (xs.length - (k + 1))
          case measure => have := HK.out; omega
          case rel => exact ⟨k + 1, by omega, by go_num, FIN.out y n (by unfold clampN; omega) HN.out⟩
    · have hke : xs.take k = xs := List.take_of_length_le (by omega)
      have hI := HI.out
      rw [hke] at hI
      obtain ⟨n0, n1, n2, n3, n4, n5, n6, n7, n8, n9, n10, n11, n12, n13, n14, n15, e⟩ := sixteen (bins 15 xs) (bins_len 15 xs)
      have c0 := cell_of hI.2.1
      have c1 := cell_of hI.2.2
      have f1 := free_of hI.2.2
      rw [e] at c0
      have a0 := c0 0
      have a1 := c0 1
      have a2 := c0 2
      have a3 := c0 3
      have a4 := c0 4
      have a5 := c0 5
      have a6 := c0 6
      have a7 := c0 7
      have a8 := c0 8
      have a9 := c0 9
      have a10 := c0 10
      have a11 := c0 11
      have a12 := c0 12
      have a13 := c0 13
      have a14 := c0 14
      have a15 := c0 15
      simp only [cellsI, List.map_cons, List.map_nil, List.getElem?_toArray, List.getElem?_cons_zero, List.getElem?_cons_succ] at a0 a1 a2 a3 a4 a5 a6 a7 a8 a9 a10 a11 a12 a13 a14 a15
      clear c0
      go_wp2
      have hbel : Below w.heap.size w ((((((((((((((((wr.setCell ⟨w.heap.size + 1, 0, none⟩ (.int .i64 n0)).setCell ⟨w.heap.size + 1, 1, none⟩ (.int .i64 n1)).setCell ⟨w.heap.size + 1, 2, none⟩ (.int .i64 n2)).setCell ⟨w.heap.size + 1, 3, none⟩ (.int .i64 n3)).setCell ⟨w.heap.size + 1, 4, none⟩ (.int .i64 n4)).setCell ⟨w.heap.size + 1, 5, none⟩ (.int .i64 n5)).setCell ⟨w.heap.size + 1, 6, none⟩ (.int .i64 n6)).setCell ⟨w.heap.size + 1, 7, none⟩ (.int .i64 n7)).setCell ⟨w.heap.size + 1, 8, none⟩ (.int .i64 n8)).setCell ⟨w.heap.size + 1, 9, none⟩ (.int .i64 n9)).setCell ⟨w.heap.size + 1, 10, none⟩ (.int .i64 n10)).setCell ⟨w.heap.size + 1, 11, none⟩ (.int .i64 n11)).setCell ⟨w.heap.size + 1, 12, none⟩ (.int .i64 n12)).setCell ⟨w.heap.size + 1, 13, none⟩ (.int .i64 n13)).setCell ⟨w.heap.size + 1, 14, none⟩ (.int .i64 n14)).setCell ⟨w.heap.size + 1, 15, none⟩ (.int .i64 n15)) := by
        refine ((((((((((((((((hI.1.setCell (by simp) _).setCell (by simp) _).setCell (by simp) _).setCell (by simp) _).setCell (by simp) _).setCell (by simp) _).setCell (by simp) _).setCell (by simp) _).setCell (by simp) _).setCell (by simp) _).setCell (by simp) _).setCell (by simp) _).setCell (by simp) _).setCell (by simp) _).setCell (by simp) _).setCell (by simp) _)
      have hblk : ((((((((((((((((wr.setCell ⟨w.heap.size + 1, 0, none⟩ (.int .i64 n0)).setCell ⟨w.heap.size + 1, 1, none⟩ (.int .i64 n1)).setCell ⟨w.heap.size + 1, 2, none⟩ (.int .i64 n2)).setCell ⟨w.heap.size + 1, 3, none⟩ (.int .i64 n3)).setCell ⟨w.heap.size + 1, 4, none⟩ (.int .i64 n4)).setCell ⟨w.heap.size + 1, 5, none⟩ (.int .i64 n5)).setCell ⟨w.heap.size + 1, 6, none⟩ (.int .i64 n6)).setCell ⟨w.heap.size + 1, 7, none⟩ (.int .i64 n7)).setCell ⟨w.heap.size + 1, 8, none⟩ (.int .i64 n8)).setCell ⟨w.heap.size + 1, 9, none⟩ (.int .i64 n9)).setCell ⟨w.heap.size + 1, 10, none⟩ (.int .i64 n10)).setCell ⟨w.heap.size + 1, 11, none⟩ (.int .i64 n11)).setCell ⟨w.heap.size + 1, 12, none⟩ (.int .i64 n12)).setCell ⟨w.heap.size + 1, 13, none⟩ (.int .i64 n13)).setCell ⟨w.heap.size + 1, 14, none⟩ (.int .i64 n14)).setCell ⟨w.heap.size + 1, 15, none⟩ (.int .i64 n15)).heap[w.heap.size + 1]? = some (.cells (cellsI [n0, n1, n2, n3, n4, n5, n6, n7, n8, n9, n10, n11, n12, n13, n14, n15]) 134 (0, 0)) := sets16 (l := List.replicate 16 0) rfl hI.2.2 n0 n1 n2 n3 n4 n5 n6 n7 n8 n9 n10 n11 n12 n13 n14 n15
      generalize ((((((((((((((((wr.setCell ⟨w.heap.size + 1, 0, none⟩ (.int .i64 n0)).setCell ⟨w.heap.size + 1, 1, none⟩ (.int .i64 n1)).setCell ⟨w.heap.size + 1, 2, none⟩ (.int .i64 n2)).setCell ⟨w.heap.size + 1, 3, none⟩ (.int .i64 n3)).setCell ⟨w.heap.size + 1, 4, none⟩ (.int .i64 n4)).setCell ⟨w.heap.size + 1, 5, none⟩ (.int .i64 n5)).setCell ⟨w.heap.size + 1, 6, none⟩ (.int .i64 n6)).setCell ⟨w.heap.size + 1, 7, none⟩ (.int .i64 n7)).setCell ⟨w.heap.size + 1, 8, none⟩ (.int .i64 n8)).setCell ⟨w.heap.size + 1, 9, none⟩ (.int .i64 n9)).setCell ⟨w.heap.size + 1, 10, none⟩ (.int .i64 n10)).setCell ⟨w.heap.size + 1, 11, none⟩ (.int .i64 n11)).setCell ⟨w.heap.size + 1, 12, none⟩ (.int .i64 n12)).setCell ⟨w.heap.size + 1, 13, none⟩ (.int .i64 n13)).setCell ⟨w.heap.size + 1, 14, none⟩ (.int .i64 n14)).setCell ⟨w.heap.size + 1, 15, none⟩ (.int .i64 n15)) = wf at *
      have D := cell_of hblk
      have d0 := D 0
      have d1 := D 1
      have d2 := D 2
      have d3 := D 3
      have d4 := D 4
      have d5 := D 5
      have d6 := D 6
      have d7 := D 7
      have d8 := D 8
      have d9 := D 9
      have d10 := D 10
      have d11 := D 11
      have d12 := D 12
      have d13 := D 13
      have d14 := D 14
      have d15 := D 15
      simp only [cellsI, List.map_cons, List.map_nil, List.getElem?_toArray, List.getElem?_cons_zero, List.getElem?_cons_succ] at d0 d1 d2 d3 d4 d5 d6 d7 d8 d9 d10 d11 d12 d13 d14 d15
      clear D hblk
      refine bodyPost_ret (v := .agg (cellsI [n0, n1, n2, n3, n4, n5, n6, n7, n8, n9, n10, n11, n12, n13, n14, n15])) (by simp [results, Try.results128, go_sem, d0, d1, d2, d3, d4, d5, d6, d7, d8, d9, d10, d11, d12, d13, d14, d15]) rfl ⟨by rw [e], hbel⟩
end Go.Proofs.Ythbojpaghbbnnaa
