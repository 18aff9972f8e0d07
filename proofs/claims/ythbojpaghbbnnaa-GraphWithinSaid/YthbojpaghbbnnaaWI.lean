/- Plain laws: both; GraphWithin answers true. No condition. -/
import Derived.Test.YthbojpaghbbnnaaWG
import Derived.Test.YthbojpaghbbnnaaWH
import Derived.Test.YthbojpaghbbnnaaWD
namespace Go.Proofs.Ythbojpaghbbnnaa.Z
open Go Go.RowKit
set_option linter.unusedVariables false
set_option linter.unusedSimpArgs false
theorem both_len (a b : List Bool) : (Go.Proofs.Ythbojpaghbbnnaa.both a b).length = min a.length b.length := by simp [Go.Proofs.Ythbojpaghbbnnaa.both]
theorem both.is {a b : List Bool} (h : a.length ≤ 20000) : both.pre a b = true ∧ both.fn a b = (Go.Proofs.Ythbojpaghbbnnaa.both a b, ()) := by
  have hl := both_len a b
  generalize hc : Go.Proofs.Ythbojpaghbbnnaa.both a b = c at *
  have hg : ∀ i, c.getD i false = (a.getD i false && b.getD i false) := fun i => by rw [← hc]; exact both_getD a b i
  refine both.is_fn _ _ ?_
  unfold both.run'
  have key := both.F3_inv (a0 := a) (b1 := b) (fun i r => 0 ≤ i ∧ i ≤ c.length ∧ r = c.take i.toNat) (fun i _ => c.length - i.toNat) (fun z => z = ((), (c, ()))) (fun i r hi => by
    obtain ⟨h0, h1, rfl⟩ := hi
    unfold both.R3
    have fin : ¬ i < (c.length : Int) → (((), (c.take i.toNat, ())) : Unit × List Bool × Unit) = ((), (c, ())) := fun q => by rw [take_all (by omega)]
    refine led_dif (fun q1 => led_dif (fun q2 => ?_) (fun q2 => led_x (fin (by omega)))) (fun q1 => led_x (fin (by omega)))
    have hw : IntKind.wrap .i64 (i + 1) = i + 1 := wr (by omega) (by omega)
    have hi1 : (i + 1).toNat = i.toNat + 1 := by omega
    have ht : c.take (i.toNat + 1) = c.take i.toNat ++ [c.getD i.toNat false] := take_snoc false c i.toNat (by omega)
    rw [hg] at ht
    rw [hw]
    have hln : (c.take i.toNat).length ≤ 20000 := by rw [List.length_take]; omega
    refine led_need h0 (led_need q1 (led_if (fun q3 => ?_) (fun q3 => ?_)))
    · refine led_need h0 (led_need q2 (led_need (by rw [List.length_singleton]; omega) (led_k ⟨_, _, rfl, ⟨by omega, by omega, ?_⟩, by omega⟩)))
      rw [hi1, ht, q3, Bool.true_and]
    · refine led_need (by rw [List.length_singleton]; omega) (led_k ⟨_, _, rfl, ⟨by omega, by omega, ?_⟩, by omega⟩)
      have q3' : a.getD i.toNat false = false := by simpa using q3
      rw [hi1, ht, q3', Bool.false_and]) 0 [] ⟨by omega, by omega, rfl⟩
  obtain ⟨z, hz, hq⟩ := key
  rw [hz, hq]
theorem alikePre {G H : Gr} (h1 : G.n ≤ 4096) (h2 : H.n ≤ 4096) : alike.pre (some G) (some H) = true := by
  show ((true && decide ((gr (some G)).n ≤ 4096)) && (true && decide ((gr (some H)).n ≤ 4096))) = true
  rw [Bool.true_and, Bool.true_and, decide_eq_true (show (gr (some G)).n ≤ 4096 from h1), decide_eq_true (show (gr (some H)).n ≤ 4096 from h2)]
  rfl
theorem alikeFn {G H : Gr} (h : G = H) : alike.fn (some G) (some H) = (true, ()) := by
  subst h
  simp only [alike.fn, gr_some, like_self]
/-- A number brought among n. -/
theorem modN (u : Int) {n : Int} (h0 : 0 < n) (h1 : n ≤ 4611686018427387904) : ∃ a : Nat, (a : Int) < n ∧ Int.tmod (IntKind.wrap .i64 (Int.tmod u n + n)) n = (a : Int) := by
  have g1 := Int.tmod_lt_of_pos u h0
  have g2 : -n < Int.tmod u n := by
    have := Int.tmod_lt_of_pos (-u) h0
    rw [Int.neg_tmod] at this
    omega
  rw [wr (by omega) (by omega)]
  have g3 := Int.tmod_lt_of_pos (Int.tmod u n + n) h0
  have g4 := Int.tmod_nonneg n (show 0 ≤ Int.tmod u n + n by omega)
  exact ⟨(Int.tmod (Int.tmod u n + n) n).toNat, by omega, by omega⟩
theorem changed_fn {G : Gr} {l : List (Int × Int × Bool)} (h : chgOk G l = true) : Changed.fn (some G) l = (some (G.changed (l.map toC)), 0, ()) := by
  unfold Changed.fn
  rw [gr_some, if_pos h]
theorem set_fill {α : Type} (x d : α) (n i : Nat) (h : i < n) : (List.replicate i x ++ List.replicate (n - i) d).set i x = List.replicate (i + 1) x ++ List.replicate (n - (i + 1)) d := by
  obtain ⟨m, hm⟩ : ∃ m, n - i = m + 1 := ⟨n - i - 1, by omega⟩
  rw [hm, show n - (i + 1) = m by omega, List.replicate_succ, List.replicate_succ', List.set_append_right _ _ (by simp)]
  simp
namespace GraphWithin
theorem F13_is {n : Int} {a b : List Bool} {u v : Int} {g x : Option Gr} (h0 : 0 ≤ n) (h1 : n ≤ 3000) : F13 n a b u v g x 0 (List.replicate n.toNat false) = some ((n, a, b, u, v, g, x, ()), (List.replicate n.toNat true, ())) := by
  have key := F13_inv (n0 := n) (a2 := a) (b3 := b) (u4 := u) (v5 := v) (g15 := g) (x16 := x) (fun i r => 0 ≤ i ∧ i ≤ n ∧ r = List.replicate i.toNat true ++ List.replicate (n.toNat - i.toNat) false) (fun i _ => n.toNat - i.toNat) (fun z => z = ((n, a, b, u, v, g, x, ()), (List.replicate n.toNat true, ()))) (fun i r hi => by
    obtain ⟨q0, q1, rfl⟩ := hi
    unfold R13
    refine led_dif (fun hlt => ?_) (fun hge => led_x ?_)
    · have hw : IntKind.wrap .i64 (i + 1) = i + 1 := wr (by omega) (by omega)
      have hi1 : (i + 1).toNat = i.toNat + 1 := by omega
      have hl : (List.replicate i.toNat true ++ List.replicate (n.toNat - i.toNat) false).length = n.toNat := by simp; omega
      rw [hw]
      refine led_need q0 (led_need (by rw [hl]; omega) (led_need (by rw [hl]; omega) (led_k ⟨_, _, rfl, ⟨by omega, by omega, ?_⟩, by omega⟩)))
      rw [hi1, set_fill _ _ _ _ (by omega)]
    · obtain rfl : i = n := by omega
      simp) 0 (List.replicate n.toNat false) ⟨by omega, by omega, by simp⟩
  obtain ⟨z, hz, hq⟩ := key
  rw [hz, hq]
theorem F18_is {n : Int} {a b r : List Bool} {u v : Int} {G : Gr} (hG : G.Ok) (hn : G.n ≤ 3000) : F18 n a b u v (some G) (some (G.induced a)) (upP (G.induced a).pairs) 0 r = some (Sum.inr ((n, a, b, u, v, some G, some (G.induced a), ()), (r, ()))) := by
  have hX := induced_ok hG a
  generalize hXe : G.induced a = X at *
  have hXn : X.n = G.n := by rw [← hXe]; rfl
  have hlen : (upP X.pairs).length ≤ 9000000 := by
    rw [upP_length]
    have h1 := edges_le X
    have : X.n * X.n ≤ 3000 * 3000 := Nat.mul_le_mul (by omega) (by omega)
    unfold Gr.edges at h1
    omega
  have key := F18_inv (n0 := n) (a2 := a) (b3 := b) (u4 := u) (v5 := v) (g15 := some G) (x16 := some X) (l19 := upP X.pairs) (r0 := r) (fun i => 0 ≤ i ∧ i ≤ (upP X.pairs).length) (fun i => (upP X.pairs).length - i.toNat) (fun z => z = Sum.inr ((n, a, b, u, v, some G, some X, ()), (r, ()))) (fun i hi => by
    obtain ⟨h0, h1⟩ := hi
    unfold R18
    refine led_dif (fun hlt => ?_) (fun hge => led_x rfl)
    obtain ⟨p, q, e, hpq, hadj⟩ := mem_pairs_get hX h0 hlt
    have hw : IntKind.wrap .i64 (i + 1) = i + 1 := wr (by omega) (by omega)
    have hp := hX.rng p q hadj
    have hq := hX.rng' hadj
    have hadj' := hadj
    rw [← hXe] at hadj'
    simp only [Gr.induced, Bool.and_eq_true] at hadj'
    obtain ⟨k1, k2, k3⟩ := hadj'
    have l2 : p < a.length := by
      rcases Nat.lt_or_ge p a.length with q | q
      · exact q
      · rw [List.getD_eq_getElem?_getD, List.getElem?_eq_none q] at k2; cases k2
    have l3 : q < a.length := by
      rcases Nat.lt_or_ge q a.length with q | q
      · exact q
      · rw [List.getD_eq_getElem?_getD, List.getElem?_eq_none q] at k3; cases k3
    have hh : Has.fn (some G) (p : Int) (q : Int) = (true, ()) := by
      simp only [Has.fn, gr_some, Gr.has, Int.toNat_natCast, k1, Int.natCast_nonneg, decide_true, Bool.and_self]
    rw [e, hw]
    simp only [hh, Int.toNat_natCast, k2, k3]
    refine led_need h0 (led_need hlt (led_need h0 (led_need hlt (led_need (hasPre (wf_nat (by omega)) (wf_nat (by omega))) (led_yes (by rfl) (led_need h0 (led_need hlt (led_yes (decide_eq_false (by omega)) (led_need h0 (led_need hlt (led_need (by omega) (led_need (by omega) (led_yes (by rfl) (led_need h0 (led_need hlt (led_need (by omega) (led_need (by omega) (led_no (by simp) ?_))))))))))))))))))
    exact led_k ⟨_, rfl, ⟨by omega, by omega⟩, by omega⟩) 0 ⟨by omega, by omega⟩
  obtain ⟨z, hz, hq⟩ := key
  rw [hz, hq]
theorem holds (n : Int) (l : List (Int × Int)) (a b : List Bool) (u v : Int) (w0 : (Lit.int .i64 n).wf = true) (w1 : l.length ≤ maxLen ∧ ∀ x ∈ l, (Lit.int .i64 x.1).wf = true ∧ (Lit.int .i64 x.2).wf = true) (w2 : a.length ≤ maxLen ∧ ∀ x ∈ a, True) (w3 : b.length ≤ maxLen ∧ ∀ x ∈ b, True) (w4 : (Lit.int .i64 u).wf = true) (w5 : (Lit.int .i64 v).wf = true) : pre n l a b u v = true ∧ fn n l a b u v = (true, ()) := by
  refine is_fn _ _ _ _ _ _ ?_
  unfold run'
  by_cases hf : fineB n l = true
  · obtain ⟨g1, g2, hG, hGn, hn3, hnn⟩ := fine_graph hf
    generalize hGe : Gr.ofPairs n.toNat l = G at *
    by_cases ha : (a.length : Int) > 20000
    · simp [first5.pre, first5.fn, fine.pre, fine.fn, hf, ha]
    · by_cases hb : (b.length : Int) > 20000
      · simp [first5.pre, first5.fn, fine.pre, fine.fn, hf, ha, hb]
      · have hda : decide ((a.length : Int) > 20000) = false := decide_eq_false ha
        have hdb : decide ((b.length : Int) > 20000) = false := decide_eq_false hb
        have hX := induced_ok hG a
        have hXn : (G.induced a).n = G.n := rfl
        have hbo := both.is (a := a) (b := b) (by omega)
        have hF13 := F13_is (n := n) (a := a) (b := b) (u := u) (v := v) (g := some G) (x := some (G.induced a)) (by omega) (by omega)
        have hF18 := F18_is (n := n) (a := a) (b := b) (u := u) (v := v) (r := List.replicate n.toNat true) hG (by omega)
        have hpp : Pairs.pre (some (G.induced a)) = true := pairsPre (by omega)
        have a1 : alike.pre (some ((G.induced a).induced b)) (some (G.induced (Go.Proofs.Ythbojpaghbbnnaa.both a b))) = true := alikePre (by show G.n ≤ _; omega) (by show G.n ≤ _; omega)
        have a2 : alike.fn (some ((G.induced a).induced b)) (some (G.induced (Go.Proofs.Ythbojpaghbbnnaa.both a b))) = (true, ()) := alikeFn (induced_both G a b)
        have hall : G.induced (List.replicate n.toNat true) = G := by rw [← hGn]; exact induced_all hG
        have a3 : alike.pre (some G) (some G) = true := alikePre (by omega) (by omega)
        have a4 : alike.fn (some G) (some G) = (true, ()) := alikeFn rfl
        simp only [first5.pre, first5.fn, fine.pre, fine.fn, hf, hda, hdb, g1, g2, Induced.pre, Induced.fn, gr_some, Option.isSome_some, Option.isNone_some, if_true, Bool.not_true, Bool.false_eq_true, if_false, hF13, hpp, Pairs.fn, hF18, hbo.1, hbo.2, a1, a2, hall, a3, a4]
        rw [if_pos (show (0 : Int) ≤ n by omega), if_pos (show n.toNat * 1 ≤ 140737488355328 by omega)]
        by_cases hn0 : n = 0
        · simp [hn0]
        · obtain ⟨p, hp, ep⟩ := modN u (n := n) (by omega) (by omega)
          obtain ⟨q, hq, eq⟩ := modN v (n := n) (by omega) (by omega)
          have hne : (n == (0 : Int)) = false := by simpa using hn0
          have hhp : Has.pre (some G) (p : Int) (q : Int) = true := hasPre (wf_nat (by omega)) (wf_nat (by omega))
          have okp : ∀ (s : Bool), okP G.n (toC ((p : Int), (q : Int), s)).1 = true := fun s => okP_iff.2 ⟨⟨by simp only [toC]; omega, by simp only [toC]; omega⟩, by simp only [toC]; omega, by simp only [toC]; omega⟩
          have okq : ∀ (s : Bool), okP G.n (toC ((q : Int), (p : Int), s)).1 = true := fun s => okP_iff.2 ⟨⟨by simp only [toC]; omega, by simp only [toC]; omega⟩, by simp only [toC]; omega, by simp only [toC]; omega⟩
          have okpp : ∀ (s : Bool), okP G.n (toC ((p : Int), (p : Int), s)).1 = true := fun s => okP_iff.2 ⟨⟨by simp only [toC]; omega, by simp only [toC]; omega⟩, by simp only [toC]; omega, by simp only [toC]; omega⟩
          have c0 : Changed.fn (some G) [] = (some G, 0, ()) := changed_fn rfl
          have c1 : Changed.fn (some G) [((p : Int), (q : Int), G.has p q), ((q : Int), (p : Int), !G.has p q)] = (some G, 0, ()) := by
            rw [changed_fn (by simp only [chgOk, List.all_cons, List.all_nil, okp, okq, Bool.and_self])]
            have : G.changed ([((p : Int), (q : Int), G.has p q), ((q : Int), (p : Int), !G.has p q)].map toC) = G := by
              show (G.chg (((p : Int), (q : Int)), G.has p q)).chg (((q : Int), (p : Int)), !G.has p q) = G
              rw [chg_swap _ (q : Int) (p : Int), chg_chg]
              exact chg_noop hG (okp _) (.inr (by simp [toC]))
            rw [this]
          have c2 : Changed.fn (some G) [((p : Int), (q : Int), !G.has p q), ((p : Int), (p : Int), false)] = (some G, 0, ()) := by
            rw [changed_fn (by simp only [chgOk, List.all_cons, List.all_nil, okp, okpp, Bool.and_self])]
            have : G.changed ([((p : Int), (q : Int), !G.has p q), ((p : Int), (p : Int), false)].map toC) = G := by
              show (G.chg (((p : Int), (q : Int)), !G.has p q)).chg (((p : Int), (p : Int)), false) = G
              rw [chg_noop hG (c := (((p : Int), (q : Int)), !G.has p q)) (okp _) (.inr (by simp)), chg_noop hG (c := (((p : Int), (p : Int)), false)) (okpp _) (.inl rfl)]
            rw [this]
          simp only [hne, hn0, ep, eq, hhp, Has.fn, gr_some, Changed.pre, Option.isSome_some, c0, c1, c2, a3, a4, if_true, if_false, Bool.false_eq_true]
          first | rfl | simp
  · have hf' : fineB n l = false := by simpa using hf
    simp [first5.pre, first5.fn, fine.pre, fine.fn, hf']
end GraphWithin
end Go.Proofs.Ythbojpaghbbnnaa.Z
