/- Plain laws: Parts, Induced, flags of chapter 5; GraphInduced answers true. No condition. -/
import Derived.Test.YthbojpaghbbnnaaYE
import Derived.Test.YthbojpaghbbnnaaYI
import Derived.Test.YthbojpaghbbnnaaYD
import Derived.Test.YthbojpaghbbnnaaW
namespace Go.Proofs.Ythbojpaghbbnnaa.Z
open Go Go.RowKit
set_option linter.unusedVariables false
set_option linter.unusedSimpArgs false
theorem kk_nat (keep : List Bool) (v : Nat) : kk keep (v : Int) = kK keep v := by
  unfold kk
  show (decide ((v : Int) < (keep.length : Int)) && keep.getD (v : Int).toNat false) = keep.getD v false
  rw [Int.toNat_natCast]
  rcases Nat.lt_or_ge v keep.length with h | h
  · rw [decide_eq_true (by omega)]; rfl
  · rw [decide_eq_false (by omega), List.getD_eq_getElem?_getD, List.getElem?_eq_none h]; rfl
theorem kept5_nat (keep : List Bool) (v : Nat) : kept5.pre keep (v : Int) = true ∧ kept5.fn keep (v : Int) = (kK keep v, ()) := by
  have h := kept5_is keep (x := (v : Int)) (by omega)
  rw [kk_nat] at h
  exact h
theorem _root_.Go.Proofs.Ythbojpaghbbnnaa.Srch.popF {G : Gr} {K : Nat → Bool} {p : List Int} {v u : Nat} {todo : List Int} (hG : G.Ok) (h : Srch G K v p ((u : Int) :: todo) (fun _ _ => False)) : Srch G K v p todo (Next G u 0) ∧ u < G.n ∧ p[u]? = some (v : Int) := by
  refine Srch.pop hG ⟨h.inv.weak (fun a b _ _ _ _ q => .inr (q.imp (fun q => ?_) id)), h.vn, h.pv, h.kv, fun t ht => h.tds t ?_, ?_⟩
  · rcases List.mem_cons.1 q with q | q
    · rw [q]; simp
    · simp [q]
  · rcases List.mem_append.1 ht with q | q
    · simp [q]
    · rw [List.mem_singleton] at q; simp [q]
  · have := h.few
    simp only [List.length_append, List.length_cons, List.length_nil] at this ⊢
    omega
theorem getD_someI {l : List Int} {x : Nat} {a : Int} (h : l[x]? = some a) : l.getD x 0 = a := by rw [List.getD_eq_getElem?_getD, h]; rfl
theorem up_at {l : List Nat} {i : Nat} (h : i < l.length) : ∃ w : Nat, (up l).getD i 0 = (w : Int) ∧ w ∈ l ∧ l[i]? = some w :=
  ⟨l[i], by simp [up, List.getD_eq_getElem?_getD, h], List.getElem_mem h, List.getElem?_eq_getElem h⟩
namespace Parts5
theorem F18_is {G : Gr} (hG : G.Ok) (hn : G.n ≤ 16777216) {keep : List Bool} {v i u : Nat} {p q : List Int} (hs : Srch G (kK keep) v p (q.drop (i + 1)) (Next G u 0)) (hu : p[u]? = some (v : Int)) (hi : i < q.length) (hq : q.length + cnt p ≤ G.n) :
    ∃ p' q', F18 (some (rowsOf G)) keep (v : Int) (i : Int) (up (G.nb u)) 0 p q = some ((some (rowsOf G), keep, (v : Int), (i : Int), ()), (p', q', ())) ∧ Srch G (kK keep) v p' (q'.drop (i + 1)) (fun _ _ => False) ∧ i < q'.length ∧ q'.length + cnt p' ≤ G.n := by
  have key := F18_inv (g0 := some (rowsOf G)) (keep1 := keep) (v7 := (v : Int)) (i10 := (i : Int)) (to11 := up (G.nb u))
    (fun k p q => ∃ j : Nat, k = (j : Int) ∧ j ≤ (G.nb u).length ∧ Srch G (kK keep) v p (q.drop (i + 1)) (Next G u j) ∧ p[u]? = some (v : Int) ∧ i < q.length ∧ q.length + cnt p ≤ G.n)
    (fun k _ _ => (G.nb u).length - k.toNat)
    (fun z => ∃ p' q', z = ((some (rowsOf G), keep, (v : Int), (i : Int), ()), (p', q', ())) ∧ Srch G (kK keep) v p' (q'.drop (i + 1)) (fun _ _ => False) ∧ i < q'.length ∧ q'.length + cnt p' ≤ G.n) (fun k p q hI => by
      obtain ⟨j, rfl, hj, h1, h2, h3, h4⟩ := hI
      unfold R18
      have hlen : ((up (G.nb u)).length : Int) = ((G.nb u).length : Int) := by rw [up_length]
      refine led_dif (fun q1 => ?_) (fun q1 => led_x ⟨p, q, rfl, h1.rest (by omega), h3, h4⟩)
      rw [hlen] at q1
      have hjl : j < (G.nb u).length := by omega
      obtain ⟨x, hx, hxm, hxg⟩ := up_at (l := G.nb u) hjl
      have hxn : x < G.n := hG.rng' ((Gr.mem_nb hG).1 hxm)
      have hpl : p.length = G.n := h1.inv.len
      have hw : IntKind.wrap .i64 ((j : Int) + 1) = (j : Int) + 1 := by
        have := G.nb_length_le u
        exact wr (by omega) (by omega)
      have a1 : (0 : Int) ≤ (j : Int) := by omega
      have a2 : (0 : Int) ≤ (x : Int) := by omega
      have a3 : (x : Int) < (p.length : Int) := by omega
      have a4 : x < p.length := by omega
      have a5 : (j : Int) < ((up (G.nb u)).length : Int) := by rw [hlen]; exact q1
      have a6 : (q.length + [(x : Int)].length) * 8 ≤ 140737488355328 := by simp only [List.length_singleton]; omega
      simp only [Int.toNat_natCast, hx, (kept5_nat keep x).1, (kept5_nat keep x).2, hw, a1, a2, a3, a4, a5, a6, if_true]
      cases hk : kK keep x with
      | false =>
        simp only [Bool.false_eq_true, if_false]
        exact led_k ⟨_, _, _, rfl, ⟨j + 1, by omega, by omega, h1.pass hG h2 hxg (fun e => absurd e (by rw [hk]; simp)), h2, h3, h4⟩, by omega⟩
      | true =>
        simp only [if_true]
        rcases h1.inv.lab x (p[x]) (List.getElem?_eq_getElem a4) with e | ⟨r, e, _⟩
        · have hpx : p[x]? = some (-1) := by rw [List.getElem?_eq_getElem a4, e]
          have d1 : decide (p.getD x 0 < 0) = true := by rw [getD_someI hpx]; rfl
          simp only [d1, if_true]
          obtain ⟨g1, g2⟩ := h1.push hG h2 hxg hk hpx
          have hc := cnt_set (r := (v : Int)) hpx (by omega)
          refine led_k ⟨_, _, _, rfl, ⟨j + 1, by omega, by omega, ?_, g2, by simp; omega, by simp; omega⟩, by omega⟩
          rw [List.drop_append_of_le_length (by omega)]
          exact g1
        · have hpx : p[x]? = some (r : Int) := by rw [List.getElem?_eq_getElem a4, e]
          have d1 : decide (p.getD x 0 < 0) = false := by rw [getD_someI hpx]; exact decide_eq_false (by omega)
          simp only [d1, Bool.false_eq_true, if_false]
          exact led_k ⟨_, _, _, rfl, ⟨j + 1, by omega, by omega, h1.pass hG h2 hxg (fun _ => by rw [hpx]; intro q; injection q with q; omega), h2, h3, h4⟩, by omega⟩) 0 p q ⟨0, rfl, by omega, hs, hu, hi, hq⟩
  obtain ⟨z, hz, p', q', rfl, h⟩ := key
  exact ⟨p', q', hz, h⟩
theorem F14_is {G : Gr} (hG : G.Ok) (hn : G.n ≤ 16777216) {keep : List Bool} {v : Nat} {p q : List Int} (hs : Srch G (kK keep) v p q (fun _ _ => False)) (hq : q.length + cnt p ≤ G.n) :
    ∃ p', F14 (some (rowsOf G)) keep (v : Int) 0 p q = some ((some (rowsOf G), keep, (v : Int), ()), (p', ())) ∧ PInv G (kK keep) (v + 1) (v + 1) p' (fun _ _ => False) := by
  have key := F14_inv (g0 := some (rowsOf G)) (keep1 := keep) (v7 := (v : Int))
    (fun k p q => ∃ i : Nat, k = (i : Int) ∧ i ≤ q.length ∧ Srch G (kK keep) v p (q.drop i) (fun _ _ => False) ∧ q.length + cnt p ≤ G.n)
    (fun k _ _ => G.n - k.toNat)
    (fun z => ∃ p', z = ((some (rowsOf G), keep, (v : Int), ()), (p', ())) ∧ PInv G (kK keep) (v + 1) (v + 1) p' (fun _ _ => False)) (fun k p q hI => by
      obtain ⟨i, rfl, hi, h1, h4⟩ := hI
      unfold R14
      refine led_dif (fun q1 => ?_) (fun q1 => led_x ⟨p, rfl, ?_⟩)
      · have hil : i < q.length := by omega
        obtain ⟨u, hu, hun, _⟩ := h1.tds (q[i]) (by rw [List.drop_eq_getElem_cons hil]; exact List.mem_cons_self)
        rw [List.drop_eq_getElem_cons hil, hu] at h1
        obtain ⟨g1, g2, g3⟩ := h1.popF hG
        obtain ⟨p', q', g4, g5, g6, g7⟩ := F18_is hG hn g1 g3 hil h4
        have e1 : q.getD i 0 = (u : Int) := by rw [List.getD_eq_getElem?_getD, List.getElem?_eq_getElem hil, hu]; rfl
        have hw : IntKind.wrap .i64 ((i : Int) + 1) = (i : Int) + 1 := wr (by omega) (by omega)
        have a1 : (0 : Int) ≤ (i : Int) := by omega
        have a2 : (0 : Int) ≤ (u : Int) := by omega
        have a3 : (u : Int) < ((rowsOf G).length : Int) := by rw [rowsOf_len]; omega
        simp only [Option.isSome_some, Option.getD_some, Int.toNat_natCast, e1, a1, a2, a3, q1, hw, rowsOf_getD hG u, g4, if_true]
        exact led_k ⟨_, _, _, rfl, ⟨i + 1, by omega, by omega, g5, g7⟩, by omega⟩
      · have : q.drop i = [] := List.drop_eq_nil_of_le (by omega)
        rw [this] at h1
        exact h1.over) 0 p q ⟨0, rfl, by omega, hs, hq⟩
  obtain ⟨z, hz, p', rfl, h⟩ := key
  exact ⟨p', hz, h⟩
theorem is {G : Gr} (hG : G.Ok) (hn : G.n ≤ 16777216) (keep : List Bool) : pre (some (rowsOf G)) keep = true ∧ fn (some (rowsOf G)) keep = (parts G keep, ()) := by
  have k3 := F3_inv (g0 := some (rowsOf G)) (keep1 := keep)
    (fun v r => ∃ k : Nat, v = (k : Int) ∧ k ≤ G.n ∧ r = List.replicate k (-1) ++ List.replicate (G.n - k) 0) (fun v _ => G.n - v.toNat)
    (fun z => z = ((some (rowsOf G), keep, ()), (List.replicate G.n (-1), ()))) (fun v r hI => by
      obtain ⟨k, rfl, hk, rfl⟩ := hI
      have hl : (List.replicate k (-1 : Int) ++ List.replicate (G.n - k) 0).length = G.n := by simp; omega
      unfold R3
      simp only [hl]
      refine led_dif (fun q1 => ?_) (fun q1 => led_x ?_)
      · have hw : IntKind.wrap .i64 ((k : Int) + 1) = (k : Int) + 1 := wr (by omega) (by omega)
        have a1 : (0 : Int) ≤ (k : Int) := by omega
        have a2 : k < G.n := by omega
        simp only [Int.toNat_natCast, hw, a1, a2, q1, if_true]
        refine led_k ⟨_, _, rfl, ⟨k + 1, by omega, by omega, ?_⟩, by omega⟩
        rw [show G.n - k = (G.n - (k + 1)) + 1 from by omega, List.replicate_succ (n := G.n - (k + 1)), List.set_append_right _ _ (by simp)]
        simp [List.replicate_succ']
      · obtain rfl : k = G.n := by omega
        simp) 0 (List.replicate G.n 0) ⟨0, rfl, by omega, by simp⟩
  have k7 := F7_inv (g0 := some (rowsOf G)) (keep1 := keep)
    (fun v r => ∃ k : Nat, v = (k : Int) ∧ k ≤ G.n ∧ PInv G (kK keep) k k r (fun _ _ => False)) (fun v _ => G.n - v.toNat)
    (fun z => z = ((), (parts G keep, ()))) (fun v r hI => by
      obtain ⟨k, rfl, hk, h1⟩ := hI
      have hl := h1.len
      unfold R7
      simp only [hl]
      refine led_dif (fun q1 => ?_) (fun q1 => led_x ?_)
      · have hw : IntKind.wrap .i64 ((k : Int) + 1) = (k : Int) + 1 := wr (by omega) (by omega)
        have a1 : (0 : Int) ≤ (k : Int) := by omega
        have a2 : k < G.n := by omega
        have a3 : k < r.length := by omega
        simp only [Int.toNat_natCast, (kept5_nat keep k).1, (kept5_nat keep k).2, hw, a1, a2, q1, if_true]
        cases hkk : kK keep k with
        | false =>
          simp only [Bool.not_false, Bool.true_eq_false, if_false]
          exact led_k ⟨_, _, rfl, ⟨k + 1, by omega, by omega, h1.skip (fun e => absurd e (by rw [hkk]; simp))⟩, by omega⟩
        | true =>
          simp only [Bool.not_true, if_true]
          rcases h1.lab k (r[k]) (List.getElem?_eq_getElem a3) with e | ⟨a, e, _⟩
          · have hpx : r[k]? = some (-1) := by rw [List.getElem?_eq_getElem a3, e]
            have d1 : decide (r.getD k 0 ≥ 0) = false := by rw [getD_someI hpx]; rfl
            have s1 := Srch.root h1 a2 hpx hkk
            have hc := cnt_set (r := (k : Int)) hpx (by omega)
            have hcl := cnt_le r
            obtain ⟨p', g1, g2⟩ := F14_is hG hn s1 (by simp only [List.length_singleton]; omega)
            simp only [d1, Bool.false_eq_true, g1, hw, if_false]
            exact led_k ⟨_, _, rfl, ⟨k + 1, by omega, by omega, g2⟩, by omega⟩
          · have hpx : r[k]? = some (a : Int) := by rw [List.getElem?_eq_getElem a3, e]
            have d1 : decide (r.getD k 0 ≥ 0) = true := by rw [getD_someI hpx]; exact decide_eq_true (by omega)
            simp only [d1, if_true]
            exact led_k ⟨_, _, rfl, ⟨k + 1, by omega, by omega, h1.skip (fun _ => by rw [hpx]; intro q; injection q with q; omega)⟩, by omega⟩
      · obtain rfl : k = G.n := by omega
        rw [parts_is (show Parted G (kK keep) r from h1)]) 0 (List.replicate G.n (-1)) ⟨0, rfl, by omega, PInv.start hG _⟩
  obtain ⟨z, hz, rfl⟩ := k3
  obtain ⟨y, hy, rfl⟩ := k7
  refine is_fn _ _ ?_
  unfold run'
  have room : G.n * 8 ≤ 140737488355328 := by omega
  simp only [Option.isSome_some, Option.getD_some, rowsOf_len, Int.toNat_natCast, room, hz, hy, if_true]
end Parts5
theorem filter_up (l : List Nat) (f : Nat → Bool) (g : Int → Bool) (h : ∀ x : Nat, g (x : Int) = f x) : (up l).filter g = up (l.filter f) := by
  unfold up
  rw [List.filter_map]
  congr 1
  exact List.filter_congr (fun x _ => h x)
theorem indL_rows {G : Gr} (hG : G.Ok) (keep : List Bool) : indL keep (rowsOf G) = rowsOf (G.induced keep) := by
  unfold indL
  rw [rowsOf_len]
  unfold rowsOf
  show (List.range G.n).map _ = (List.range G.n).map _
  refine List.map_congr_left (fun u hu => ?_)
  unfold indT
  rw [show ((List.range G.n).map (fun u => up (G.nb u))) = rowsOf G from rfl, rowsOf_getD hG u, filter_up _ (fun x => kK keep u && kK keep x) _ (fun x => by rw [kk_nat, kk_nat])]
  congr 1
  unfold Gr.nb
  rw [List.filter_filter]
  refine List.filter_congr (fun x _ => ?_)
  show (_ && G.adj u x) = (G.adj u x && _)
  rw [Bool.and_comm]
theorem Ind5.is {G : Gr} (hG : G.Ok) (hn : G.n ≤ 16777216) (keep : List Bool) : Ind5.pre (some (rowsOf G)) keep = true ∧ Ind5.fn (some (rowsOf G)) keep = (some (rowsOf (G.induced keep)), ()) := by
  refine ⟨?_, ?_⟩
  · unfold Ind5.pre indOk
    simp only [Option.isSome_some, Option.getD_some, Bool.true_and, Bool.and_eq_true, decide_eq_true_eq, List.all_eq_true, rowsOf_len]
    refine ⟨hn, fun l hl => ?_⟩
    unfold rowsOf at hl
    obtain ⟨u, hu, rfl⟩ := List.mem_map.1 hl
    refine ⟨Nat.le_trans (up_len_le G u) hn, fun x hx => ?_⟩
    obtain ⟨y, _, rfl⟩ := List.mem_map.1 hx
    omega
  · unfold Ind5.fn
    rw [Option.getD_some, indL_rows hG]
theorem flags5.is {l : List Bool} (hl : l.length ≤ 1099511627) : flags5.pre l = true ∧ flags5.fn l = ((l ++ [true, false, true], (l.length : Int)), ()) := by
  refine flags5.is_fn _ ?_
  unfold flags5.run'
  have hp : BoolsO.pre l = true := decide_eq_true (by omega)
  have room : (l.length + [true, false, true].length) * 1 ≤ 140737488355328 := by simp only [List.length_cons, List.length_nil]; omega
  have le : (l.length : Int) ≤ ((l ++ [true, false, true]).length : Int) := by simp; omega
  simp only [hp, BoolsO.fn, room, le, if_true, Int.toNat_natCast]
theorem unturn5.is {l : List Bool} (hl : l.length ≤ 1099511627) : unturn5.pre (l ++ [true, false, true]) (l.length : Int) l = true ∧ ∃ m, unturn5.fn (l ++ [true, false, true]) (l.length : Int) l = (m, true, ()) := by
  have hw1 : IntKind.wrap .i64 ((l.length : Int) + 1) = (l.length : Int) + 1 := wr (by omega) (by omega)
  have hw2 : IntKind.wrap .i64 ((l.length : Int) + 2) = (l.length : Int) + 2 := wr (by omega) (by omega)
  have hw3 : IntKind.wrap .i64 ((l.length : Int) + 3) = (l.length : Int) + 3 := wr (by omega) (by omega)
  have key := unturn5.F5_inv (same5 := true) (all6 := ((l.length : Int) + 3).toNat) (ok7 := true) (fun i r => 0 ≤ i ∧ i ≤ l.length + 3 ∧ r.length = l.length + 3) (fun i _ => l.length + 3 - i.toNat)
    (fun z => ∃ m, z = ((true, true, ()), (m, ()))) (fun i r hi => by
      obtain ⟨h0, h1, h2⟩ := hi
      unfold unturn5.R5
      refine led_dif (fun q1 => ?_) (fun q1 => led_x ⟨_, rfl⟩)
      have hw : IntKind.wrap .i64 (i + 1) = i + 1 := wr (by omega) (by omega)
      have q2 : i.toNat < r.length := by omega
      simp only [hw, h0, q1, q2, if_true]
      exact led_k ⟨_, _, rfl, ⟨by omega, by omega, by rw [List.length_set]; exact h2⟩, by omega⟩) 0 (l ++ [true, false, true]) ⟨by omega, by omega, by simp⟩
  obtain ⟨z, hz, m, hq⟩ := key
  have := unturn5.is_fn (l ++ [true, false, true]) (l.length : Int) l (x := (m, true, ())) (by
    unfold unturn5.run'
    have tk : List.take l.length (l ++ [true, false, true]) = l := by simp
    have b1 : (0 : Int) ≤ (l.length : Int) + 3 := by omega
    have b2 : (l.length : Int) + 3 ≤ ((l ++ [true, false, true]).length : Int) := by simp
    have b3 : (l.length : Int) < (((l.length : Int) + 3).toNat : Int) := by omega
    have b4 : (0 : Int) ≤ (l.length : Int) := by omega
    have b5 : (0 : Int) ≤ (l.length : Int) + 1 := by omega
    have b6 : (l.length : Int) + 1 < (((l.length : Int) + 3).toNat : Int) := by omega
    have b7 : (0 : Int) ≤ (l.length : Int) + 2 := by omega
    have b8 : (l.length : Int) + 2 < (((l.length : Int) + 3).toNat : Int) := by omega
    have g0 : List.getD (l ++ [true, false, true]) l.length false = true := by simp [List.getD_eq_getElem?_getD]
    have g1 : List.getD (l ++ [true, false, true]) ((l.length : Int) + 1).toNat false = false := by
      rw [show ((l.length : Int) + 1).toNat = l.length + 1 by omega]; simp [List.getD_eq_getElem?_getD]
    have g2 : List.getD (l ++ [true, false, true]) ((l.length : Int) + 2).toNat false = true := by
      rw [show ((l.length : Int) + 2).toNat = l.length + 2 by omega]; simp [List.getD_eq_getElem?_getD]
    simp only [SameBools.pre, SameBools.fn, hw1, hw2, hw3, Int.toNat_natCast, tk, b1, b2, b3, b4, b5, b6, b7, b8, g0, g1, g2, decide_true, Bool.not_false, beq_self_eq_true, hz, hq, if_true])
  exact ⟨this.1, m, this.2⟩
namespace GraphInduced
set_option maxHeartbeats 1000000 in
theorem holds (n : Int) (l : List (Int × Int)) (c : List Bool) (w0 : (Lit.int .i64 n).wf = true) (w1 : l.length ≤ maxLen ∧ ∀ x ∈ l, (Lit.int .i64 x.1).wf = true ∧ (Lit.int .i64 x.2).wf = true) (w2 : c.length ≤ maxLen ∧ ∀ x ∈ c, True) : pre n l c = true ∧ fn n l c = (true, ()) := by
  refine is_fn _ _ _ ?_
  unfold run'
  cases hf : (decide ((l.length : Int) ≤ 20000) && (decide (n ≤ 3000) || decide (n > 16777216))) with
  | false => simp only [first5.is.1, first5.is.2, (few5.is n l).1, (few5.is n l).2, hf, Bool.not_true, Bool.not_false, if_true, if_false, Bool.true_eq_false]
  | true =>
    have hl : l.length ≤ 20000 := by simp only [Bool.and_eq_true, decide_eq_true_eq] at hf; omega
    by_cases hc : (c.length : Int) > 20000
    · simp only [first5.is.1, first5.is.2, (few5.is n l).1, (few5.is n l).2, hf, hc, decide_true, Bool.not_true, if_true]
    · have dc : decide ((c.length : Int) > 20000) = false := decide_eq_false hc
      obtain ⟨m1, m2⟩ := made5.is (n := n) (l := l) (by omega)
      simp only [first5.is.1, first5.is.2, (few5.is n l).1, (few5.is n l).2, hf, dc, m1, m2, Bool.not_true, Bool.false_eq_true, if_true, if_false]
      by_cases h : inN n = true ∧ prsOk n l = true
      · have hs := few_small hf h.1
        have hG : (Gr.ofPairs n.toNat l).Ok := ofPairs_ok (by omega) (prs_all h.2)
        have hn : (Gr.ofPairs n.toNat l).n ≤ 4096 := by rw [ofPairs_n]; omega
        have s := says5.is hG hn
        have hG2 := induced_ok hG c
        have s2 := says5.is hG2 (show (Gr.ofPairs n.toNat l).n ≤ 4096 from hn)
        obtain ⟨f1, f2⟩ := flags5.is (l := c) (by omega)
        obtain ⟨u1, m, u2⟩ := unturn5.is (l := c) (by omega)
        have tk : List.take c.length (c ++ [true, false, true]) = c := by simp
        have pa := Parts5.is hG (show (Gr.ofPairs n.toNat l).n ≤ 16777216 by omega) c
        have ia := Ind5.is hG (show (Gr.ofPairs n.toNat l).n ≤ 16777216 by omega) c
        simp only [if_pos h, Option.isNone_some, f1, f2, u1, u2, tk, Int.toNat_natCast, Induced.pre, Induced.fn, Parts.pre, Parts.fn, gr_some, Option.isSome_some, pa.1, pa.2, ia.1, ia.2, SameIntsH.pre, SameIntsH.fn, s.1, s.2, s2.1, s2.2, decide_true, Bool.not_true, Bool.false_eq_true, if_true, if_false]
      · simp only [if_neg h, Option.isNone_none, Bool.true_eq_false, if_false]
end GraphInduced
end Go.Proofs.Ythbojpaghbbnnaa.Z
