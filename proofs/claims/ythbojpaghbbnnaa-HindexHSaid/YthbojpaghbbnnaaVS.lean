/- Plain law: HindexH answers true. No condition. -/
import Derived.Test.YthbojpaghbbnnaaVB
import Derived.Test.YthbojpaghbbnnaaVQ
import Derived.Test.YthbojpaghbbnnaaWD
import Derived.Test.YthbojpaghbbnnaaZO
namespace Go.Proofs.Ythbojpaghbbnnaa.Z
open Go Go.RowKit Hx
set_option linter.unusedVariables false
set_option linter.unusedSimpArgs false
namespace HindexH
set_option maxHeartbeats 8000000 in
theorem holds (l : List Int) (m at' to' : Int) (w0 : l.length ≤ maxLen ∧ ∀ x ∈ l, (Lit.int .i64 x).wf = true) (w1 : (Lit.int .i64 m).wf = true) (w2 : (Lit.int .i64 at').wf = true) (w3 : (Lit.int .i64 to').wf = true) : pre l m at' to' = true ∧ fn l m at' to' = (true, ()) := by
  refine is_fn _ _ _ _ ?_
  unfold run'
  by_cases hl : (l.length : Int) > 16384
  · simp [first7.is.1, first7.is.2, hl]
  · have hdl : decide ((l.length : Int) > 16384) = false := decide_eq_false hl
    have hwm : wf m = true := wf_iff.2 (lit_wf w1)
    have hH := fun (k : List Int) (hk : k.length ≤ 1099511627776) => HH.is (l := k) (m := m) hk hwm
    have hpl : IntsO.pre l = true := decide_eq_true (by omega)
    have a1 := (hH l (by omega)).1
    have a2 := (hH l (by omega)).2
    have a3 := (H7.is (l := l) (most := m) (by omega)).1
    have a4 := (H7.is (l := l) (most := m) (by omega)).2
    have room : (l.length + [(-7 : Int), (-8 : Int)].length) * 8 ≤ 140737488355328 := by
      rw [show [(-7 : Int), (-8 : Int)].length = 2 from rfl]; omega
    have hw : IntKind.wrap .i64 ((l.length : Int) + 2) = (l.length : Int) + 2 := wr (by omega) (by omega)
    have le1 : (l.length : Int) ≤ (l.length : Int) + 2 := by omega
    have le2 : (l.length : Int) + 2 ≤ ((l ++ [(-7 : Int), (-8 : Int)]).length : Int) := by simp
    have tk : List.take l.length (l ++ [(-7 : Int), (-8 : Int)]) = l := by simp
    have sm : ∀ k : List Int, SameIntsH.pre k k = true ∧ SameIntsH.fn k k = (true, ()) := fun k => ⟨rfl, by
      show (decide (k = k), ()) = (true, ())
      rw [decide_eq_true rfl]⟩
    have d6 : (hOf l m != hOf l m) = false := by simp
    by_cases hz : l.length = 0
    · have e0 : (((l.length : Nat) : Int) == (0 : Int)) = true := by simp [hz]
      simp only [first7.is.1, first7.is.2, hdl, hpl, IntsO.fn, room, hw, le1, le2, Int.toNat_natCast, tk, a1, a2, a3, a4, (sm _).1, (sm _).2, d6, e0, if_true, if_false, Bool.not_true, Bool.false_eq_true, Bool.true_eq_false]
    · have e0 : (((l.length : Nat) : Int) == (0 : Int)) = false := by simp; intro e; exact hz (by rw [e]; rfl)
      have e1 : ¬ ((l.length : Int) = 0) := by omega
      obtain ⟨p, hp, ep⟩ := modN at' (n := (l.length : Int)) (by omega) (by omega)
      have p0 : (0 : Int) ≤ (p : Int) := by omega
      have p1 : p < l.length := by omega
      have p2 : (p : Int) < ((l ++ [(-7 : Int), (-8 : Int)]).length : Int) := by simp; omega
      have p3 : p < (l ++ [(-7 : Int), (-8 : Int)]).length := by simp; omega
      have st : List.set (l ++ [(-7 : Int), (-8 : Int)]) p to' = l.set p to' ++ [(-7 : Int), (-8 : Int)] := List.set_append_left _ _ p1
      have le3 : (l.length : Int) ≤ ((l.set p to' ++ [(-7 : Int), (-8 : Int)]).length : Int) := by simp; omega
      have le4 : (l.length : Int) + 2 ≤ ((l.set p to' ++ [(-7 : Int), (-8 : Int)]).length : Int) := by simp
      have tk2 : List.take l.length (l.set p to' ++ [(-7 : Int), (-8 : Int)]) = l.set p to' := by
        have := List.take_left (l₁ := l.set p to') (l₂ := [(-7 : Int), (-8 : Int)])
        rwa [List.length_set] at this
      have hps : IntsO.pre (l.set p to') = true := decide_eq_true (by rw [List.length_set]; omega)
      have u1 := (hH (l.set p to') (by rw [List.length_set]; omega)).1
      have u2 := (hH (l.set p to') (by rw [List.length_set]; omega)).2
      have u3 := (H7.is (l := l.set p to') (most := m) (by rw [List.length_set]; omega)).1
      have u4 := (H7.is (l := l.set p to') (most := m) (by rw [List.length_set]; omega)).2
      have d7 : (hOf (l.set p to') m == hOf (l.set p to') m) = true := by simp
      simp only [first7.is.1, first7.is.2, hdl, hpl, IntsO.fn, room, hw, le1, le2, Int.toNat_natCast, tk, a1, a2, a3, a4, (sm _).1, (sm _).2, d6, e0, e1, ep, p0, p2, p3, st, le3, le4, tk2, hps, u1, u2, u3, u4, d7, if_true, if_false, Bool.not_true, Bool.false_eq_true, Bool.true_eq_false]
end HindexH
end Go.Proofs.Ythbojpaghbbnnaa.Z
