/- Plain law: HindexHolds answers true. No condition. -/
import Derived.Test.YthbojpaghbbnnaaVC
import Derived.Test.YthbojpaghbbnnaaVQ
import Derived.Test.YthbojpaghbbnnaaZO
namespace Go.Proofs.Ythbojpaghbbnnaa.Z
open Go Go.RowKit Hx
set_option linter.unusedVariables false
set_option linter.unusedSimpArgs false
theorem over_reverse (l : List Int) (h : Int) : over l.reverse h = over l h := by
  unfold over
  rw [List.countP_reverse]
theorem hOf_reverse (l : List Int) (m : Int) : hOf l.reverse m = hOf l m := by
  have a := hOf_mono (l := l.reverse) (l' := l) (m := m) (m' := m) (fun h _ => by rw [over_reverse]; exact Int.le_refl _) (Int.le_refl _)
  have b := hOf_mono (l := l) (l' := l.reverse) (m := m) (m' := m) (fun h _ => by rw [over_reverse]; exact Int.le_refl _) (Int.le_refl _)
  omega
theorem over_set {l : List Int} {i : Nat} {y : Int} (hi : i < l.length) (hy : l.getD i 0 ≤ y) (h : Int) : over l h ≤ over (l.set i y) h := by
  induction l generalizing i with
  | nil => simp at hi
  | cons a l ih =>
    cases i with
    | zero =>
      simp only [List.set_cons_zero, over_cons]
      have : a ≤ y := hy
      split <;> split <;> omega
    | succ i =>
      simp only [List.set_cons_succ, over_cons]
      have := ih (i := i) (by simpa using hi) (by simpa using hy)
      omega
theorem take_reverse {l : List Int} {k : Nat} (hk : k < l.length) : (l.take (k + 1)).reverse = l.getD k 0 :: (l.take k).reverse := by
  rw [take_snoc 0 l k hk]
  simp
namespace HindexHolds
theorem F8_is {l : List Int} {m at' by' h : Int} (hl : l.length ≤ 16384) : F8 l m at' by' h 0 0 0 = some ((l, m, at', by', h, over l h, over l (h + 1), ()), ()) := by
  have hov : ∀ x k : Int, (if x ≥ k then (1 : Int) else 0) = if k ≤ x then 1 else 0 := fun x k => rfl
  have hsn : ∀ (i : Nat) (k : Int), i < l.length → over (l.take (i + 1)) k = over (l.take i) k + if l.getD i 0 ≥ k then 1 else 0 := fun i k hi => by
    rw [take_snoc 0 l i hi, over_append]
    congr 1
    rw [over_cons]
    simp [over]
  have key := F8_inv (l0 := l) (m1 := m) (at2 := at') (by3 := by') (h10 := h) (fun n more i => 0 ≤ i ∧ i ≤ l.length ∧ n = over (l.take i.toNat) h ∧ more = over (l.take i.toNat) (h + 1)) (fun _ _ i => l.length - i.toNat)
    (fun z => z = ((l, m, at', by', h, over l h, over l (h + 1), ()), ())) (fun n more i hi => by
      obtain ⟨h0, h1, rfl, rfl⟩ := hi
      unfold R8
      refine led_dif (fun q1 => ?_) (fun q1 => led_x (by rw [take_all (by omega)]))
      have hi1 : (i + 1).toNat = i.toNat + 1 := by omega
      have hw : IntKind.wrap .i64 (i + 1) = i + 1 := wr (by omega) (by omega)
      have b1 := over_nonneg (l.take i.toNat) h
      have b2 := over_le (l.take i.toNat) h
      have b3 := over_nonneg (l.take i.toNat) (h + 1)
      have b4 := over_le (l.take i.toNat) (h + 1)
      rw [List.length_take] at b2 b4
      have hw1 : IntKind.wrap .i64 (over (l.take i.toNat) h + 1) = over (l.take i.toNat) h + 1 := wr (by omega) (by omega)
      have hw2 : IntKind.wrap .i64 (over (l.take i.toNat) (h + 1) + 1) = over (l.take i.toNat) (h + 1) + 1 := wr (by omega) (by omega)
      have s1 := hsn i.toNat h (by omega)
      have s2 := hsn i.toNat (h + 1) (by omega)
      rw [hw, hw1, hw2]
      refine led_need h0 (led_need q1 (led_dif (fun c1 => ?_) (fun c1 => ?_)))
      · refine led_need h0 (led_need q1 (led_dif (fun c2 => ?_) (fun c2 => ?_)))
        · refine led_k ⟨_, _, _, rfl, ⟨by omega, by omega, ?_, ?_⟩, by omega⟩
          · rw [hi1, s1, if_pos c1]
          · rw [hi1, s2, if_pos (by omega)]
        · refine led_k ⟨_, _, _, rfl, ⟨by omega, by omega, ?_, ?_⟩, by omega⟩
          · rw [hi1, s1, if_pos c1]
          · rw [hi1, s2, if_neg (by omega), Int.add_zero]
      · refine led_need h0 (led_need q1 (led_no (by simp only [decide_eq_true_eq]; omega) ?_))
        refine led_k ⟨_, _, _, rfl, ⟨by omega, by omega, ?_, ?_⟩, by omega⟩
        · rw [hi1, s1, if_neg c1, Int.add_zero]
        · rw [hi1, s2, if_neg (by omega), Int.add_zero]) 0 0 0 ⟨by omega, by omega, rfl, rfl⟩
  obtain ⟨z, hz, hq⟩ := key
  rw [hz, hq]
theorem F18_is {l : List Int} {m at' by' h : Int} (hl : l.length ≤ 16384) : F18 l m at' by' h 0 (List.replicate l.length 0) = some ((l, m, at', by', h, ()), (l.reverse, ())) := by
  have key := F18_inv (l0 := l) (m1 := m) (at2 := at') (by3 := by') (h10 := h) (fun i r => 0 ≤ i ∧ i ≤ l.length ∧ r = List.replicate (l.length - i.toNat) 0 ++ (l.take i.toNat).reverse) (fun i _ => l.length - i.toNat)
    (fun z => z = ((l, m, at', by', h, ()), (l.reverse, ()))) (fun i r hi => by
      obtain ⟨h0, h1, rfl⟩ := hi
      unfold R18
      refine led_dif (fun q1 => ?_) (fun q1 => led_x ?_)
      · have hi1 : (i + 1).toNat = i.toNat + 1 := by omega
        have hw : IntKind.wrap .i64 (i + 1) = i + 1 := wr (by omega) (by omega)
        have hw1 : IntKind.wrap .i64 ((l.length : Int) - 1) = (l.length : Int) - 1 := wr (by omega) (by omega)
        have hw2 : IntKind.wrap .i64 ((l.length : Int) - 1 - i) = (l.length : Int) - 1 - i := wr (by omega) (by omega)
        have hlen : (List.replicate (l.length - i.toNat) (0 : Int) ++ (l.take i.toNat).reverse).length = l.length := by simp; omega
        rw [hw, hw1, hw2]
        refine led_need h0 (led_need q1 (led_need (by omega) (led_need (by rw [hlen]; omega) (led_need (by rw [hlen]; omega) (led_k ⟨_, _, rfl, ⟨by omega, by omega, ?_⟩, by omega⟩)))))
        rw [hi1, take_reverse (by omega), show ((l.length : Int) - 1 - i).toNat = l.length - (i.toNat + 1) by omega]
        obtain ⟨q, hq⟩ : ∃ q, l.length - i.toNat = q + 1 := ⟨l.length - i.toNat - 1, by omega⟩
        rw [hq, show l.length - (i.toNat + 1) = q by omega, List.replicate_succ', List.append_assoc, List.set_append_right _ _ (by simp)]
        simp
      · rw [take_all (by omega), show l.length - i.toNat = 0 by omega]
        simp) 0 (List.replicate l.length 0) ⟨by omega, by omega, by simp⟩
  obtain ⟨z, hz, hq⟩ := key
  rw [hz, hq]
set_option maxHeartbeats 8000000 in
theorem holds (l : List Int) (m at' by' : Int) (w0 : l.length ≤ maxLen ∧ ∀ x ∈ l, (Lit.int .i64 x).wf = true) (w1 : (Lit.int .i64 m).wf = true) (w2 : (Lit.int .i64 at').wf = true) (w3 : (Lit.int .i64 by').wf = true) : pre l m at' by' = true ∧ fn l m at' by' = (true, ()) := by
  refine is_fn _ _ _ _ ?_
  unfold run'
  by_cases hl : (l.length : Int) > 16384
  · simp [first7.is.1, first7.is.2, hl]
  · have hdl : decide ((l.length : Int) > 16384) = false := decide_eq_false hl
    have hwm : wf m = true := wf_iff.2 (lit_wf w1)
    have hwm' := wf_iff.1 hwm
    unfold Wf at hwm'
    have hH := fun (k : List Int) (hk : k.length ≤ 1099511627776) => HH.is (l := k) (m := m) hk hwm
    have hF8 := F8_is (l := l) (m := m) (at' := at') (by' := by') (h := hOf l m) (by omega)
    have hF18 := F18_is (l := l) (m := m) (at' := at') (by' := by') (h := hOf l m) (by omega)
    have hIs := hOf_is l m
    have i1 := hIs.nonneg
    have i2 := hIs.most
    have i3 := hIs.holds
    have i4 := hOf_len l m
    have hpl : IntsO.pre l = true := decide_eq_true (by omega)
    have a1 := (hH l (by omega)).1
    have a2 := (hH l (by omega)).2
    have r1 := (hH l.reverse (by rw [List.length_reverse]; omega)).1
    have r2 := (hH l.reverse (by rw [List.length_reverse]; omega)).2
    rw [hOf_reverse] at r2
    have g1 := (hH (l ++ [at']) (by simp; omega)).1
    have g2 := (hH (l ++ [at']) (by simp; omega)).2
    have g3 : decide (hOf (l ++ [at']) m < hOf l m) = false := by
      refine decide_eq_false (Int.not_lt.2 (hOf_mono (fun h _ => ?_) (Int.le_refl _)))
      rw [over_append]
      have := over_nonneg [at'] h
      omega
    have room : (l.length + 1) * 8 ≤ 140737488355328 := by omega
    have d1 : decide (hOf l m < 0) = false := decide_eq_false (by omega)
    have d2 : decide (over l (hOf l m) < hOf l m) = false := decide_eq_false (by omega)
    have d5 : decide (hOf l m > (l.length : Int)) = false := decide_eq_false (by omega)
    have d6 : (hOf l m != hOf l m) = false := by simp
    have d7 : decide (hOf l m < hOf l m) = false := decide_eq_false (by omega)
    have d8 : decide (hOf l m ≥ hOf l m) = true := decide_eq_true (Int.le_refl _)
    have n1 : m < 4611686018427387904 → IntKind.wrap .i64 (m + 1) = m + 1 := fun _ => wr (by omega) (by omega)
    have n2 : m < 4611686018427387904 → HH.pre l (m + 1) = true ∧ HH.fn l (m + 1) = (hOf l (m + 1), ()) := fun _ => HH.is (by omega) (wf_iff.2 ⟨by omega, by omega⟩)
    have n3 : decide (hOf l (m + 1) < hOf l m) = false := decide_eq_false (Int.not_lt.2 (hOf_mono (fun _ _ => Int.le_refl _) (by omega)))
    obtain ⟨b1, c1⟩ : ∃ b, decide (hOf l m > 0) = b := ⟨_, rfl⟩
    obtain ⟨b2, c2⟩ : ∃ b, decide (hOf l m < m) = b := ⟨_, rfl⟩
    obtain ⟨b3, c3⟩ : ∃ b, decide (m < 4611686018427387904) = b := ⟨_, rfl⟩
    have d3 : b1 = true → decide (hOf l m > m) = false := fun e => by
      rw [e] at c1
      have := of_decide_eq_true c1
      exact decide_eq_false (by omega)
    have d4 : b2 = true → decide (over l (hOf l m + 1) > hOf l m) = false := fun e => by
      rw [e] at c2
      have := of_decide_eq_true c2
      refine decide_eq_false (fun q => ?_)
      have := hIs.best (hOf l m + 1) (by omega) (by omega) (by omega)
      omega
    by_cases hz : l.length = 0
    · have e0 : (((l.length : Nat) : Int) == (0 : Int)) = true := by simp [hz]
      cases b3 with
      | true =>
        have hm62 := of_decide_eq_true c3
        cases b1 <;> cases b2 <;> simp only [first7.is.1, first7.is.2, hdl, a1, a2, hF8, Int.toNat_natCast, hF18, r1, r2, IntsO.fn, hpl, g1, g2, g3, List.length_singleton, room, d1, d2, d3, d4, d5, d6, c1, c2, c3, n1 hm62, (n2 hm62).1, (n2 hm62).2, n3, e0, if_true, if_false, Bool.not_true, Bool.false_eq_true, Bool.true_eq_false, show l.length * 8 ≤ 140737488355328 by omega]
      | false =>
        cases b1 <;> cases b2 <;> simp only [first7.is.1, first7.is.2, hdl, a1, a2, hF8, Int.toNat_natCast, hF18, r1, r2, IntsO.fn, hpl, g1, g2, g3, List.length_singleton, room, d1, d2, d3, d4, d5, d6, d7, c1, c2, c3, e0, if_true, if_false, Bool.not_true, Bool.false_eq_true, Bool.true_eq_false, show l.length * 8 ≤ 140737488355328 by omega]
    · have e0 : (((l.length : Nat) : Int) == (0 : Int)) = false := by simp; intro e; exact hz (by rw [e]; rfl)
      have e1 : ¬ ((l.length : Int) = 0) := by omega
      obtain ⟨p, hp, ep⟩ := modN at' (n := (l.length : Int)) (by omega) (by omega)
      have p0 : (0 : Int) ≤ (p : Int) := by omega
      have p1 : p < l.length := by omega
      obtain ⟨b6, c6⟩ : ∃ b, decide (by' > 0) = b := ⟨_, rfl⟩
      obtain ⟨b7, c7⟩ : ∃ b, decide (l.getD p 0 < 4611686018427387904) = b := ⟨_, rfl⟩
      obtain ⟨b8, c8⟩ : ∃ b, decide (by' < 4611686018427387904) = b := ⟨_, rfl⟩
      have u1 : b6 = true → b7 = true → b8 = true → IntKind.wrap .i64 (l.getD p 0 + by') = l.getD p 0 + by' := fun e6 e7 e8 => by
        rw [e6] at c6
        rw [e7] at c7
        rw [e8] at c8
        have := of_decide_eq_true c6
        have := of_decide_eq_true c7
        have := of_decide_eq_true c8
        have h3 := wf_iff.1 (wf_iff.2 (lit_wf (w0.2 _ (mem_getD 0 l p p1))))
        unfold Wf at h3
        exact wr (by omega) (by omega)
      have u2 := (hH (l.set p (l.getD p 0 + by')) (by rw [List.length_set]; omega)).1
      have u3 := (hH (l.set p (l.getD p 0 + by')) (by rw [List.length_set]; omega)).2
      have u4 : b6 = true → decide (hOf (l.set p (l.getD p 0 + by')) m ≥ hOf l m) = true := fun e6 => by
        rw [e6] at c6
        have := of_decide_eq_true c6
        exact decide_eq_true (hOf_mono (fun h _ => over_set p1 (by omega) h) (Int.le_refl _))
      cases b3 with
      | true =>
        have hm62 := of_decide_eq_true c3
        cases b1 <;> cases b2 <;> cases b6 <;> cases b7 <;> cases b8 <;> simp only [first7.is.1, first7.is.2, hdl, a1, a2, hF8, Int.toNat_natCast, hF18, r1, r2, IntsO.fn, hpl, g1, g2, g3, List.length_singleton, room, d1, d2, d3, d4, d5, d6, d8, c1, c2, c3, n1 hm62, (n2 hm62).1, (n2 hm62).2, n3, e0, e1, ep, p0, hp, p1, c6, c7, c8, u1, u2, u3, u4, if_true, if_false, Bool.not_true, Bool.false_eq_true, Bool.true_eq_false, show l.length * 8 ≤ 140737488355328 by omega]
      | false =>
        cases b1 <;> cases b2 <;> cases b6 <;> cases b7 <;> cases b8 <;> simp only [first7.is.1, first7.is.2, hdl, a1, a2, hF8, Int.toNat_natCast, hF18, r1, r2, IntsO.fn, hpl, g1, g2, g3, List.length_singleton, room, d1, d2, d3, d4, d5, d6, d7, d8, c1, c2, c3, e0, e1, ep, p0, hp, p1, c6, c7, c8, u1, u2, u3, u4, if_true, if_false, Bool.not_true, Bool.false_eq_true, Bool.true_eq_false, show l.length * 8 ≤ 140737488355328 by omega]
end HindexHolds
end Go.Proofs.Ythbojpaghbbnnaa.Z
