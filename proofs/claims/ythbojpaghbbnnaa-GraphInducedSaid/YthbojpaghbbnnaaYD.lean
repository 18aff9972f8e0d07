/- Plain laws: GraphMakes, GraphAsks and GraphChanged answer true. No condition. -/
import Derived.Test.YthbojpaghbbnnaaYB
import Derived.Test.YthbojpaghbbnnaaYC
import Derived.Test.YthbojpaghbbnnaaZO
namespace Go.Proofs.Ythbojpaghbbnnaa.Z
open Go Go.RowKit
set_option linter.unusedVariables false
set_option linter.unusedSimpArgs false
theorem SameL5.is (a b : Int × List Int) : SameL5.pre a b = true ∧ SameL5.fn a b = (decide (a = b), ()) := by
  refine SameL5.is_fn _ _ ?_
  unfold SameL5.run'
  obtain ⟨a1, a2⟩ := a
  obtain ⟨b1, b2⟩ := b
  simp only [SameIntsH.pre, SameIntsH.fn, if_true]
  by_cases h : a2 = b2
  · subst h
    simp only [decide_true, if_true, Prod.mk.injEq, and_true]
    congr 2
  · simp [h]
theorem SameLL.is {a b : List (Int × List Int)} (hl : a.length ≤ 1099511627776) : SameLL.pre a b = true ∧ SameLL.fn a b = (decide (a = b), ()) := by
  refine SameLL.is_fn _ _ ?_
  unfold SameLL.run'
  by_cases hlen : a.length = b.length
  · have hn : ((a.length : Int) != (b.length : Int)) = false := by simp [hlen]
    have key := SameLL.F4_inv (a0 := a) (b1 := b) (fun i => 0 ≤ i ∧ i ≤ a.length ∧ a.take i.toNat = b.take i.toNat) (fun i => a.length - i.toNat)
      (fun z => z = if a = b then Sum.inr ((), ()) else Sum.inl ((false, ()), ())) (fun i hi => by
        obtain ⟨h0, h1, h2⟩ := hi
        obtain ⟨k, rfl⟩ := Int.eq_ofNat_of_zero_le h0
        unfold SameLL.R4
        simp only [Int.toNat_natCast] at h2 ⊢
        refine led_dif (fun q1 => ?_) (fun q1 => led_x ?_)
        · have hk : k < a.length := by omega
          have hw : IntKind.wrap .i64 ((k : Int) + 1) = (k : Int) + 1 := wr (by omega) (by omega)
          have e1 := take_snoc (0, []) a k hk
          have e2 := take_snoc (0, []) b k (by omega)
          have q2 : (k : Int) < (b.length : Int) := by omega
          simp only [(SameL5.is _ _).1, (SameL5.is _ _).2, hw, h0, q1, q2, if_true]
          by_cases he : a.getD k (0, []) = b.getD k (0, [])
          · simp only [he, decide_true, Bool.not_true, Bool.false_eq_true, if_false]
            exact led_k ⟨_, rfl, ⟨by omega, by omega, by rw [show ((k : Int) + 1).toNat = k + 1 by omega, e1, e2, h2, he]⟩, by omega⟩
          · simp only [he, decide_false, Bool.not_false, if_true]
            refine led_x ?_
            rw [if_neg (fun e => he (by rw [e]))]
        · rw [take_all (by omega), take_all (by omega)] at h2
          rw [if_pos h2]) 0 ⟨by omega, by omega, by simp⟩
    obtain ⟨z, hz, hq⟩ := key
    simp only [hn, Bool.false_eq_true, if_false, hz, hq]
    by_cases e : a = b
    · simp [e]
    · simp [e]
  · have hn : ((a.length : Int) != (b.length : Int)) = true := by simpa using fun e => hlen (by omega)
    have : a ≠ b := fun e => hlen (by rw [e])
    simp [hn, this]
theorem nbz_len {G : Gr} (hG : G.Ok) (v : Int) : (if 0 ≤ v then ((G.nb v.toNat).length : Int) else 0) = ((up (G.nbz v)).length : Int) := by
  unfold Gr.nbz
  split
  · rw [up_length]
  · simp [up]
theorem wf_small' {x : Int} (h0 : -1 ≤ x) (h1 : x ≤ 1099511627776) : wf x = true := wf_iff.2 ⟨by omega, by omega⟩
theorem says5.is {G : Gr} (hG : G.Ok) (hn : G.n ≤ 4096) : says5.pre (some G) (some (rowsOf G)) = true ∧ says5.fn (some G) (some (rowsOf G)) = (true, ()) := by
  have key := says5.F10_inv (g0 := some G) (r1 := some (rowsOf G)) (n5 := (G.n : Int)) (fun v => -1 ≤ v) (fun v => (G.n + 1 - v).toNat)
    (fun z => z = Sum.inr ((), ())) (fun v hi => by
      unfold says5.R10
      refine led_dif (fun q1 => ?_) (fun q1 => led_x rfl)
      have hw : IntKind.wrap .i64 (v + 1) = v + 1 := wr (by omega) (by omega)
      simp only [Neighbours.pre, Neighbours.fn, Degree.pre, Degree.fn, gr_some, Option.isSome_some, (Nb5.is hG v).1, (Nb5.is hG v).2, SameIntsH.pre, SameIntsH.fn, nbz_len hG v, decide_true, bne_self_eq_false, Bool.not_true, Bool.false_eq_true, hw, if_true, if_false]
      exact led_k ⟨_, rfl, by omega, by omega⟩) (-1) (by omega)
  obtain ⟨z, hz, hq⟩ := key
  refine says5.is_fn _ _ ?_
  unfold says5.run'
  have w0 : wf 0 = true := wf_small' (by omega) (by omega)
  have w1 : wf (G.n : Int) = true := wf_small' (by omega) (by omega)
  have pp : Pairs.pre (some G) = true := show (true && decide (G.n ≤ 4096)) = true by rw [decide_eq_true hn]; rfl
  have pa : Arcs.pre (some G) 0 (G.n : Int) = true := show (true && (decide (G.n ≤ 4096) && (wf 0 && wf (G.n : Int)))) = true by rw [decide_eq_true hn, w0, w1]; rfl
  have pl : Lists.pre (some G) 0 (G.n : Int) = true := show (true && (wf 0 && wf (G.n : Int))) = true by rw [w0, w1]; rfl
  have hL : (upL (G.lists 0 G.n)).length ≤ 1099511627776 := by
    have e : G.lists 0 G.n = listsTo G 0 (segL G.n 0 G.n) := rfl
    have := listsTo_le G 0 (segL G.n 0 G.n)
    have := segL_le G.n 0 G.n
    rw [e, upL, List.length_map]; omega
  simp only [(N5.is G).1, (N5.is G).2, N.pre, N.fn, Edges.pre, Edges.fn, (Edges5.is hG hn).1, (Edges5.is hG hn).2, pp, Pairs.fn, (Pairs5.is hG hn).1, (Pairs5.is hG hn).2, SamePairs.pre, SamePairs.fn, pa, Arcs.fn, (Arcs5.is hG hn w0 w1).1, (Arcs5.is hG hn w0 w1).2, pl, Lists.fn, (Lists5.is hG hn w0 w1).1, (Lists5.is hG hn w0 w1).2, (SameLL.is hL).1, (SameLL.is hL).2, gr_some, Option.isSome_some, Option.isNone_some, hz, hq, decide_true, Bool.and_self, bne_self_eq_false, Bool.not_true, Bool.false_eq_true, if_true, if_false]
theorem few5.is (n : Int) (l : List (Int × Int)) : few5.pre n l = true ∧ few5.fn n l = (decide ((l.length : Int) ≤ 20000) && (decide (n ≤ 3000) || decide (n > 16777216)), ()) := by
  refine few5.is_fn _ _ ?_
  unfold few5.run'
  by_cases h : (l.length : Int) ≤ 20000
  · by_cases h2 : n ≤ 3000
    · simp [h, h2]
    · simp [h, h2]
  · simp [h]
theorem room5.is {l : List (Int × Int)} (hl : l.length ≤ 1099511627) : room5.pre l = true ∧ room5.fn l = ((l ++ [(201, 202)], (l.length : Int)), ()) := by
  refine room5.is_fn _ ?_
  unfold room5.run'
  have hp : PairsO.pre l = true := decide_eq_true (by omega)
  have room : (l.length + [((201 : Int), (202 : Int))].length) * 16 ≤ 140737488355328 := by simp only [List.length_singleton]; omega
  have le : (l.length : Int) ≤ ((l ++ [((201 : Int), (202 : Int))]).length : Int) := by simp; omega
  have l0 : (0 : Int) ≤ (l.length : Int) := by omega
  simp only [hp, PairsO.fn, room, le, l0, if_true, Int.toNat_natCast]
theorem still5.is {l : List (Int × Int)} (hl : l.length ≤ 1099511627) : still5.pre (l ++ [(201, 202)]) (l.length : Int) l = true ∧ ∃ m, still5.fn (l ++ [(201, 202)]) (l.length : Int) l = (m, true, ()) := by
  have hw : IntKind.wrap .i64 ((l.length : Int) + 1) = (l.length : Int) + 1 := wr (by omega) (by omega)
  have key := still5.F5_inv (same5 := true) (all6 := ((l.length : Int) + 1).toNat) (ok7 := true) (fun i r => 0 ≤ i ∧ i ≤ l.length + 1 ∧ r.length = l.length + 1) (fun i _ => l.length + 1 - i.toNat)
    (fun z => ∃ m, z = ((true, true, ()), (m, ()))) (fun i r hi => by
      obtain ⟨h0, h1, h2⟩ := hi
      unfold still5.R5
      refine led_dif (fun q1 => ?_) (fun q1 => led_x ⟨_, rfl⟩)
      have hw : IntKind.wrap .i64 (i + 1) = i + 1 := wr (by omega) (by omega)
      have q2 : i.toNat < r.length := by omega
      simp only [hw, h0, q1, q2, if_true]
      exact led_k ⟨_, _, rfl, ⟨by omega, by omega, by rw [List.length_set]; exact h2⟩, by omega⟩) 0 (l ++ [(201, 202)]) ⟨by omega, by omega, by simp⟩
  obtain ⟨z, hz, m, hq⟩ := key
  have := still5.is_fn (l ++ [(201, 202)]) (l.length : Int) l (x := (m, true, ())) (by
    unfold still5.run'
    have tk : List.take l.length (l ++ [((201 : Int), (202 : Int))]) = l := by simp
    have b1 : (0 : Int) ≤ (l.length : Int) + 1 := by omega
    have b2 : (l.length : Int) + 1 ≤ ((l ++ [((201 : Int), (202 : Int))]).length : Int) := by simp
    have b3 : (l.length : Int) < (((l.length : Int) + 1).toNat : Int) := by omega
    have b4 : (0 : Int) ≤ (l.length : Int) := by omega
    have g : List.getD (l ++ [((201 : Int), (202 : Int))]) l.length (0, 0) = (201, 202) := by simp [List.getD_eq_getElem?_getD]
    simp only [SamePairs.pre, SamePairs.fn, hw, Int.toNat_natCast, tk, b1, b2, b3, b4, g, decide_true, beq_self_eq_true, hz, hq, if_true])
  exact ⟨this.1, m, this.2⟩
theorem ofPairs_n (n : Nat) (l : List (Int × Int)) : (Gr.ofPairs n l).n = n := rfl
theorem made5.is {n : Int} {l : List (Int × Int)} (hl : l.length ≤ 1099511627) : made5.pre n l = true ∧ made5.fn n l = if inN n = true ∧ prsOk n l = true then (some (Gr.ofPairs n.toNat l), some (rowsOf (Gr.ofPairs n.toNat l)), true, ()) else (none, none, true, ()) := by
  refine made5.is_fn _ _ ?_
  unfold made5.run'
  obtain ⟨r1, r2⟩ := room5.is hl
  obtain ⟨s1, m, s2⟩ := still5.is hl
  obtain ⟨k1, k2⟩ := Make5.is (n := n) (l := l) (by omega)
  have tk : List.take l.length (l ++ [((201 : Int), (202 : Int))]) = l := by simp
  simp only [r1, r2, s1, s2, k1, k2, Int.toNat_natCast, tk, Make.pre, Make.fn, num5.pre, num5.fn, if_true]
  by_cases h1 : inN n = true
  · by_cases h2 : prsOk n l = true
    · simp [h1, h2]
    · simp [h1, h2]
  · simp [h1]
theorem few_small {n : Int} {l : List (Int × Int)} (h : (decide ((l.length : Int) ≤ 20000) && (decide (n ≤ 3000) || decide (n > 16777216))) = true) (hi : inN n = true) : n.toNat ≤ 3000 := by
  simp only [Bool.and_eq_true, Bool.or_eq_true, decide_eq_true_eq, inN] at h hi
  omega
theorem prs_all {n : Int} {l : List (Int × Int)} (h : prsOk n l = true) : ∀ p ∈ l, okP n.toNat p = true := fun p hp => List.all_eq_true.1 h p hp
theorem first5.is : first5.pre = true ∧ first5.fn = (true, ()) := ⟨rfl, rfl⟩
namespace GraphMakes
theorem holds (n : Int) (l : List (Int × Int)) (w0 : (Lit.int .i64 n).wf = true) (w1 : l.length ≤ maxLen ∧ ∀ x ∈ l, (Lit.int .i64 x.1).wf = true ∧ (Lit.int .i64 x.2).wf = true) : pre n l = true ∧ fn n l = (true, ()) := by
  refine is_fn _ _ ?_
  unfold run'
  cases hf : (decide ((l.length : Int) ≤ 20000) && (decide (n ≤ 3000) || decide (n > 16777216))) with
  | false => simp only [first5.is.1, first5.is.2, (few5.is n l).1, (few5.is n l).2, hf, Bool.not_true, Bool.not_false, if_true]
  | true =>
    have hl : l.length ≤ 20000 := by simp only [Bool.and_eq_true, decide_eq_true_eq] at hf; omega
    obtain ⟨m1, m2⟩ := made5.is (n := n) (l := l) (by omega)
    simp only [first5.is.1, first5.is.2, (few5.is n l).1, (few5.is n l).2, hf, m1, m2, Bool.not_true, Bool.false_eq_true, if_true, if_false]
    by_cases h : inN n = true ∧ prsOk n l = true
    · have hs := few_small hf h.1
      have s := says5.is (G := Gr.ofPairs n.toNat l) (ofPairs_ok (by omega) (prs_all h.2)) (by rw [ofPairs_n]; omega)
      simp only [if_pos h, Option.isNone_some, s.1, s.2, Bool.not_true, Bool.false_eq_true, if_true, if_false]
    · simp only [if_neg h, Option.isNone_none, Bool.true_eq_false, if_false]
end GraphMakes
namespace GraphAsks
theorem F9_is {G : Gr} (hG : G.Ok) (hn : G.n ≤ 4096) {l : List Int} (hl : l.length ≤ maxLen) (hw : ∀ x ∈ l, wf x = true) : F9 l (some G) (some (rowsOf G)) 0 = some (Sum.inr ((), ())) := by
  unfold maxLen at hl
  have key := F9_inv (l2 := l) (g9 := some G) (r10 := some (rowsOf G)) (fun i => 0 ≤ i) (fun i => l.length - i.toNat)
    (fun z => z = Sum.inr ((), ())) (fun i hi => by
      unfold R9
      refine led_dif (fun q1 => ?_) (fun q1 => led_x rfl)
      refine led_dif (fun q2 => ?_) (fun q2 => led_x rfl)
      have hw1 : IntKind.wrap .i64 (i + 1) = i + 1 := wr (by omega) (by omega)
      have hw2 : IntKind.wrap .i64 ((l.length : Int) - 1) = (l.length : Int) - 1 := wr (by omega) (by omega)
      have hw3 : IntKind.wrap .i64 ((l.length : Int) - 1 - i) = (l.length : Int) - 1 - i := wr (by omega) (by omega)
      have wu := hw _ (mem_getD 0 l i.toNat (by omega))
      have wv := hw _ (mem_getD 0 l ((l.length : Int) - 1 - i).toNat (by omega))
      have b1 : (0 : Int) ≤ (l.length : Int) - 1 - i := by omega
      have b2 : (l.length : Int) - 1 - i < (l.length : Int) := by omega
      obtain ⟨u, hu⟩ : ∃ u, l.getD i.toNat 0 = u := ⟨_, rfl⟩
      obtain ⟨v, hv⟩ : ∃ v, l.getD ((l.length : Int) - 1 - i).toNat 0 = v := ⟨_, rfl⟩
      rw [hu] at wu
      rw [hv] at wv
      have ph : Has.pre (some G) u v = true := show (true && (wf u && wf v)) = true by rw [wu, wv]; rfl
      have pa : Arcs.pre (some G) u v = true := show (true && (decide (G.n ≤ 4096) && (wf u && wf v))) = true by rw [decide_eq_true hn, wu, wv]; rfl
      have pl : Lists.pre (some G) u v = true := show (true && (wf u && wf v)) = true by rw [wu, wv]; rfl
      have hL : (upL (G.lists u v)).length ≤ 1099511627776 := by
        have e : G.lists u v = listsTo G u (segL G.n u v) := rfl
        have := listsTo_le G u (segL G.n u v)
        have := segL_le G.n u v
        rw [e, upL, List.length_map]; omega
      simp only [hw1, hw2, hw3, hu, hv, hi, q1, b1, b2, Neighbours.pre, Neighbours.fn, Degree.pre, Degree.fn, ph, Has.fn, gr_some, Option.isSome_some, (Nb5.is hG _).1, (Nb5.is hG _).2, (Has5.is hG _ _).1, (Has5.is hG _ _).2, SameIntsH.pre, SameIntsH.fn, nbz_len hG, SamePairs.pre, SamePairs.fn, pa, Arcs.fn, (Arcs5.is hG hn wu wv).1, (Arcs5.is hG hn wu wv).2, pl, Lists.fn, (Lists5.is hG hn wu wv).1, (Lists5.is hG hn wu wv).2, (SameLL.is hL).1, (SameLL.is hL).2, decide_true, Bool.and_self, bne_self_eq_false, beq_self_eq_true, Bool.not_true, Bool.false_eq_true, if_true, if_false]
      exact led_k ⟨_, rfl, by omega, by omega⟩) 0 (by omega)
  obtain ⟨z, hz, hq⟩ := key
  rw [hz, hq]
theorem holds (n : Int) (l : List (Int × Int)) (k : List Int) (w0 : (Lit.int .i64 n).wf = true) (w1 : l.length ≤ maxLen ∧ ∀ x ∈ l, (Lit.int .i64 x.1).wf = true ∧ (Lit.int .i64 x.2).wf = true) (w2 : k.length ≤ maxLen ∧ ∀ x ∈ k, (Lit.int .i64 x).wf = true) : pre n l k = true ∧ fn n l k = (true, ()) := by
  refine is_fn _ _ _ ?_
  unfold run'
  cases hf : (decide ((l.length : Int) ≤ 20000) && (decide (n ≤ 3000) || decide (n > 16777216))) with
  | false => simp only [first5.is.1, first5.is.2, (few5.is n l).1, (few5.is n l).2, hf, Bool.not_true, Bool.not_false, if_true]
  | true =>
    have hl : l.length ≤ 20000 := by simp only [Bool.and_eq_true, decide_eq_true_eq] at hf; omega
    obtain ⟨m1, m2⟩ := made5.is (n := n) (l := l) (by omega)
    simp only [first5.is.1, first5.is.2, (few5.is n l).1, (few5.is n l).2, hf, m1, m2, Bool.not_true, Bool.false_eq_true, if_true, if_false]
    by_cases h : inN n = true ∧ prsOk n l = true
    · have hs := few_small hf h.1
      have s := F9_is (G := Gr.ofPairs n.toNat l) (ofPairs_ok (by omega) (prs_all h.2)) (by rw [ofPairs_n]; omega) (l := k) w2.1 (fun x hx => w2.2 x hx)
      simp only [if_pos h, Option.isNone_some, s, Bool.not_true, Bool.false_eq_true, if_true, if_false]
    · simp only [if_neg h, Option.isNone_none, Bool.true_eq_false, if_false]
end GraphAsks
theorem ChangesO.is {l : List (Int × Int × Bool)} (hl : l.length ≤ 1099511627) : ChangesO.pre l = true ∧ ChangesO.fn l = (l, ()) := by
  have key := ChangesO.F3_inv (l0 := l) (fun i r => 0 ≤ i ∧ i ≤ l.length ∧ r = l.take i.toNat) (fun i _ => l.length - i.toNat)
    (fun z => z = ((), (l, ()))) (fun i r hi => by
      obtain ⟨h0, h1, rfl⟩ := hi
      obtain ⟨k, rfl⟩ := Int.eq_ofNat_of_zero_le h0
      unfold ChangesO.R3
      simp only [Int.toNat_natCast]
      refine led_dif (fun q1 => ?_) (fun q1 => led_x (by rw [take_all (by omega)]))
      have hk : k < l.length := by omega
      have hw : IntKind.wrap .i64 ((k : Int) + 1) = (k : Int) + 1 := wr (by omega) (by omega)
      have room : ((l.take k).length + [l.getD k (0, 0, false)].length) * 24 ≤ 140737488355328 := by
        simp only [List.length_take, List.length_singleton]; omega
      simp only [hw, room, h0, q1, if_true]
      exact led_k ⟨_, _, rfl, ⟨by omega, by omega, by rw [show ((k : Int) + 1).toNat = k + 1 by omega, take_snoc (0, 0, false) l k hk]⟩, by omega⟩) 0 [] ⟨by omega, by omega, by simp⟩
  obtain ⟨z, hz, hq⟩ := key
  refine ChangesO.is_fn _ ?_
  unfold ChangesO.run'
  rw [if_pos (by omega), hz, hq]
namespace GraphChanged
theorem F15_is (g : Option Gr) (r : Option (List (List Int))) (h : Option Gr) (s : Option (List (List Int))) {m0 : List (Int × Int × Bool)} (hl : m0.length ≤ 1099511627776) : F15 g r h s 0 m0 = some ((g, r, h, s, ()), ()) := by
  have key := F15_inv (g9 := g) (r10 := r) (h13 := h) (s15 := s) (fun i m => 0 ≤ i ∧ m.length = m0.length) (fun i m => m.length - i.toNat)
    (fun z => z = ((g, r, h, s, ()), ())) (fun i m hi => by
      obtain ⟨h0, h1⟩ := hi
      unfold R15
      refine led_dif (fun q1 => ?_) (fun q1 => led_x rfl)
      have hw : IntKind.wrap .i64 (i + 1) = i + 1 := wr (by omega) (by omega)
      have q2 : i.toNat < m.length := by omega
      simp only [hw, h0, q1, q2, if_true]
      exact led_k ⟨_, _, rfl, ⟨by omega, by rw [List.length_set]; exact h1⟩, by rw [List.length_set]; omega⟩) 0 m0 ⟨by omega, rfl⟩
  obtain ⟨z, hz, hq⟩ := key
  rw [hz, hq]
set_option maxHeartbeats 1000000 in
theorem holds (n : Int) (l : List (Int × Int)) (c : List (Int × Int × Bool)) (w0 : (Lit.int .i64 n).wf = true) (w1 : l.length ≤ maxLen ∧ ∀ x ∈ l, (Lit.int .i64 x.1).wf = true ∧ (Lit.int .i64 x.2).wf = true) (w2 : c.length ≤ maxLen ∧ ∀ x ∈ c, (Lit.int .i64 x.1).wf = true ∧ (Lit.int .i64 x.2.1).wf = true ∧ True) : pre n l c = true ∧ fn n l c = (true, ()) := by
  refine is_fn _ _ _ ?_
  unfold run'
  cases hf : (decide ((l.length : Int) ≤ 20000) && (decide (n ≤ 3000) || decide (n > 16777216))) with
  | false => simp only [first5.is.1, first5.is.2, (few5.is n l).1, (few5.is n l).2, hf, Bool.not_true, Bool.not_false, if_true, if_false, Bool.true_eq_false]
  | true =>
    have hl : l.length ≤ 20000 := by simp only [Bool.and_eq_true, decide_eq_true_eq] at hf; omega
    by_cases hc : (c.length : Int) > 20000
    · simp only [first5.is.1, first5.is.2, (few5.is n l).1, (few5.is n l).2, hf, hc, decide_true, Bool.not_true, if_true]
    · have dc : decide ((c.length : Int) > 20000) = false := decide_eq_false hc
      obtain ⟨m1, m2⟩ := made5.is (n := n) (l := l) (by omega)
      simp only [first5.is.1, first5.is.2, (few5.is n l).1, (few5.is n l).2, hf, dc, m1, m2, Bool.not_true, Bool.false_eq_true, if_true, if_false]
      by_cases h : inN n = true ∧ prsOk n l = true
      · have hs := few_small hf h.1
        have hG : (Gr.ofPairs n.toNat l).Ok := ofPairs_ok (by omega) (prs_all h.2)
        have hn : (Gr.ofPairs n.toNat l).n ≤ 4096 := by rw [ofPairs_n]; omega
        have s := says5.is hG hn
        obtain ⟨c1, c2⟩ := ChangesO.is (l := c) (by omega)
        have room : (c.length + [((201 : Int), (0 : Int), false)].length) * 24 ≤ 140737488355328 := by simp only [List.length_singleton]; omega
        have le : (c.length : Int) ≤ ((c ++ [((201 : Int), (0 : Int), false)]).length : Int) := by simp; omega
        have lt : (c.length : Int) < ((c ++ [((201 : Int), (0 : Int), false)]).length : Int) := by simp; omega
        have l0 : (0 : Int) ≤ (c.length : Int) := by omega
        have tk : List.take c.length (c ++ [((201 : Int), (0 : Int), false)]) = c := by simp
        have g : List.getD (c ++ [((201 : Int), (0 : Int), false)]) c.length (0, 0, false) = (201, 0, false) := by simp [List.getD_eq_getElem?_getD]
        have k := Chg5.is hG (l := c) (by omega)
        have f := F15_is (some (Gr.ofPairs n.toNat l)) (some (rowsOf (Gr.ofPairs n.toNat l))) (if chgOk (Gr.ofPairs n.toNat l) c = true then some ((Gr.ofPairs n.toNat l).changed (c.map toC)) else none) (if chgOk (Gr.ofPairs n.toNat l) c = true then some (rowsOf ((Gr.ofPairs n.toNat l).changed (c.map toC))) else none) (m0 := c ++ [((201 : Int), (0 : Int), false)]) (by simp; omega)
        simp only [if_pos h, Option.isNone_some, c1, c2, room, le, lt, l0, tk, g, Int.toNat_natCast, Changed.pre, Changed.fn, gr_some, Option.isSome_some, k.1, k.2, SameChanges.pre, SameChanges.fn, num5.pre, num5.fn, decide_true, Bool.not_true, Bool.false_eq_true, bne_self_eq_false, if_true, if_false]
        by_cases hk : chgOk (Gr.ofPairs n.toNat l) c = true
        · have hG2 := changed_ok hG (cs := c.map toC) (fun d hd => by
            obtain ⟨q, hq, rfl⟩ := List.mem_map.1 hd
            exact List.all_eq_true.1 hk q hq)
          have s2 := says5.is hG2 (by rw [changed_n]; exact hn)
          rw [if_pos hk, if_pos hk] at f
          simp only [if_pos hk, Option.isNone_some, f, s.1, s.2, s2.1, s2.2, bne_self_eq_false, Bool.not_false, Bool.not_true, Bool.false_eq_true, if_true, if_false]
          simp
        · rw [if_neg hk, if_neg hk] at f
          simp only [if_neg hk, Option.isNone_none, f, s.1, s.2, bne_self_eq_false, Bool.not_false, Bool.not_true, Bool.false_eq_true, if_true, if_false]
          simp
      · simp only [if_neg h, Option.isNone_none, Bool.true_eq_false, if_false]
end GraphChanged
end Go.Proofs.Ythbojpaghbbnnaa.Z
