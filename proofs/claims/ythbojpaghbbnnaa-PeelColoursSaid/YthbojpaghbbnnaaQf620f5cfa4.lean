/- Proved: the statement PeelColours holds whatever is handed in. Condition: none but those of the row. -/
import Derived.Test.YthbojpaghbbnnaaQc1742ff83c
import Derived.ProofKit
import Derived.OpenShut
import Derived.ShutString
import Derived.ChangeOld
import Derived.Below
import Derived.SizedLaws
import Derived.Deep.Slices
import Derived.ChangeSame
import Derived.Test.YthbojpaghbbnnaaRows
import Derived.Carry
namespace Go.Proofs.Ythbojpaghbbnnaa.Z
open Go Go.RowKit
set_option linter.unusedVariables false
set_option linter.unusedSimpArgs false
/-- How many neighbours each one has that have not gone. -/
def leftsOf (G : Gr) (gone : List Bool) : List Int := (List.range G.n).map (fun u => Hx.inSet (Hx.here gone) (nbsOf G u))
theorem leftsOf_len (G : Gr) (gone : List Bool) : (leftsOf G gone).length = G.n := by simp [leftsOf]
theorem leftsOf_at {G : Gr} {gone : List Bool} {u : Nat} (hu : u < G.n) : (leftsOf G gone).getD u 0 = Hx.inSet (Hx.here gone) (nbsOf G u) := by
  simp [leftsOf, List.getD_eq_getElem?_getD, hu]
theorem degs_lefts (G : Gr) : degs G = leftsOf G (List.replicate G.n false) := by
  unfold degs leftsOf
  refine List.map_congr_left (fun u hu => ?_)
  rw [Hx.inSet_all _ _ (fun x _ => by unfold Hx.here; rw [Hx.getD_rep]; rfl), up_length]
theorem goesP.is {G : Gr} (hG : G.Ok) (hn : G.n ≤ 4096) {gone : List Bool} (hl : gone.length = G.n) {v : Nat} (hv : v < G.n) (hg : gone.getD v false = false) {m : Int} (hm : -1099511627776 ≤ m ∧ m ≤ 1099511627776) :
    goesP.pre (some G) (leftsOf G gone) gone m (v : Int) = true ∧ goesP.fn (some G) (leftsOf G gone) gone m (v : Int) = ((some G, leftsOf G (gone.set v true), gone.set v true, m - 1, false), ()) := by
  have hN := nbs_G hG
  have key := goesP.F3_inv (t24 := up (G.nb v)) (t25 := ((up (G.nb v)).length : Int)) (c0x0 := some G) (c0x3 := m - 1) (r2 := gone.set v true)
    (fun t r => ∃ j : Nat, t = (j : Int) ∧ j ≤ (G.nb v).length ∧ r.length = G.n ∧ ∀ u, u < G.n → r.getD u 0 = Hx.inSet (Hx.here gone) (nbsOf G u) - if (u : Int) ∈ (up (G.nb v)).take j then 1 else 0)
    (fun t _ => (G.nb v).length - t.toNat)
    (fun z => z = ((), ((some G, m - 1, ()), leftsOf G (gone.set v true), gone.set v true, ()))) (fun t r hI => by
      obtain ⟨j, rfl, hj, hr, hx⟩ := hI
      have hlen : (up (G.nb v)).length = (G.nb v).length := up_length _
      have hb := G.nb_length_le v
      unfold goesP.R3
      refine led_dif (fun q1 => ?_) (fun q1 => led_x ?_)
      · have hjl : j < (up (G.nb v)).length := by omega
        have hm2 := mem_getD 0 (up (G.nb v)) j hjl
        obtain ⟨x, hx1, hxe⟩ := List.mem_map.1 hm2
        have hxn : x < G.n := hG.rng' ((Gr.mem_nb hG).1 hx1)
        have hw : IntKind.wrap .i64 ((j : Int) + 1) = (j : Int) + 1 := wr (by omega) (by omega)
        have h0 := Hx.inSet_nonneg (Hx.here gone) (nbsOf G x)
        have h1 := Hx.inSet_le (Hx.here gone) (nbsOf G x)
        have h2 := G.nb_length_le x
        rw [show (nbsOf G x).length = (G.nb x).length from up_length _] at h1
        have hxx := hx x hxn
        have hw2 : IntKind.wrap .i64 (r.getD x 0 - 1) = r.getD x 0 - 1 := wr (by rw [hxx]; split <;> omega) (by rw [hxx]; split <;> omega)
        have a1 : (0 : Int) ≤ (j : Int) := by omega
        have a2 : (0 : Int) ≤ (x : Int) := by omega
        have a3 : (x : Int) < (r.length : Int) := by omega
        have a4 : x < r.length := by omega
        have a5 : (j : Int) < ((up (G.nb v)).length : Int) := by omega
        have tk := take_snoc 0 (up (G.nb v)) j hjl
        rw [← hxe] at tk
        have hnd := hN.nodup v hv
        have hnx : (x : Int) ∉ (up (G.nb v)).take j := fun hmem => by
          have hnd2 : ((up (G.nb v)).take (j + 1)).Nodup := List.Pairwise.take hnd
          rw [tk] at hnd2
          exact (List.nodup_append.1 hnd2).2.2 _ hmem _ (by simp) rfl
        simp only [Int.toNat_natCast, ← hxe, hw, hw2, a1, a2, a3, a4, a5, if_true]
        refine led_k ⟨_, _, rfl, ⟨j + 1, by omega, by omega, by simpa using hr, fun u hu => ?_⟩, by omega⟩
        rw [Hx.getD_set, tk]
        by_cases e : x = u
        · subst e
          rw [if_pos ⟨rfl, a4⟩, hxx, if_neg hnx, if_pos (by simp)]
          omega
        · rw [if_neg (fun q => e q.1), hx u hu]
          have : ((u : Int) ∈ (up (G.nb v)).take j ++ [(x : Int)]) ↔ (u : Int) ∈ (up (G.nb v)).take j := by
            rw [List.mem_append, List.mem_singleton]
            exact ⟨fun q => q.elim id (fun q => absurd q (by omega)), .inl⟩
          simp only [this]
      · have e : r = leftsOf G (gone.set v true) := Hx.list_ext_getD (by rw [hr, leftsOf_len]) (fun u hu => by
          rw [hr] at hu
          rw [hx u hu, leftsOf_at hu, List.take_of_length_le (by omega), Hx.inSet_here (hN.nodup u hu) (fun x hx => (hN.rng u hu x hx).1) (by omega) hg]
          have : ((v : Int) ∈ nbsOf G u) ↔ ((u : Int) ∈ up (G.nb v)) := ⟨hN.symm v u hv hu, hN.symm u v hu hv⟩
          simp only [this]
          exact Int.add_sub_cancel _ _)
        rw [e]) 0 (leftsOf G gone) ⟨0, rfl, by omega, leftsOf_len _ _, fun u hu => by rw [leftsOf_at hu]; simp⟩
  obtain ⟨z, hz, rfl⟩ := key
  refine goesP.is_fn _ _ _ _ _ ?_
  unfold goesP.run'
  have hw : IntKind.wrap .i64 (m - 1) = m - 1 := wr (by omega) (by omega)
  have a1 : (0 : Int) ≤ (v : Int) := by omega
  have a2 : (v : Int) < (gone.length : Int) := by omega
  have a3 : v < gone.length := by omega
  have wv : wf (v : Int) = true := wf_iff.2 ⟨by omega, by omega⟩
  have hnb : Neighbours.fn (some G) (v : Int) = (up (G.nb v), ()) := by
    unfold Neighbours.fn
    rw [gr_some, nbz_at]
  simp only [Neighbours.pre, hnb, Option.isSome_some, Int.toNat_natCast, hw, a1, a2, a3, hz, if_true]
/-- The least number of neighbours of those below j that have not gone; n, if there is none. -/
def leastTo (n : Nat) (left : List Int) (gone : List Bool) (j : Nat) : Int := (List.range j).foldl (fun k u => if gone.getD u false = true then k else if left.getD u 0 < k then left.getD u 0 else k) (n : Int)
theorem leastTo_succ (n : Nat) (left : List Int) (gone : List Bool) (j : Nat) : leastTo n left gone (j + 1) = if gone.getD j false = true then leastTo n left gone j else if left.getD j 0 < leastTo n left gone j then left.getD j 0 else leastTo n left gone j := by
  unfold leastTo
  rw [List.range_succ, List.foldl_append]
  rfl
theorem leastP.is {G : Gr} (hG : G.Ok) (hn : G.n ≤ 4096) {left : List Int} {gone : List Bool} (hll : left.length = G.n) (hl : gone.length = G.n) (m : Int) :
    leastP.pre (some G) left gone m = true ∧ leastP.fn (some G) left gone m = ((some G, left, gone, m, false), leastTo G.n left gone G.n, ()) := by
  have key := leastP.F3_inv (t15 := (gone.length : Int)) (c0x0 := some G) (c0x3 := m) (r1 := left) (r2 := gone)
    (fun k t => ∃ j : Nat, t = (j : Int) ∧ j ≤ G.n ∧ k = leastTo G.n left gone j) (fun _ t => G.n - t.toNat)
    (fun z => z = ((leastTo G.n left gone G.n, ()), ((some G, m, ()), left, gone, ()))) (fun k t hI => by
      obtain ⟨j, rfl, hj, rfl⟩ := hI
      unfold leastP.R3
      refine led_dif (fun q1 => ?_) (fun q1 => led_x ?_)
      · have hw : IntKind.wrap .i64 ((j : Int) + 1) = (j : Int) + 1 := wr (by omega) (by omega)
        have a1 : (0 : Int) ≤ (j : Int) := by omega
        have a2 : (j : Int) < (left.length : Int) := by omega
        have e := leastTo_succ G.n left gone j
        simp only [Int.toNat_natCast, hw, a1, a2, q1, if_true]
        cases hb : gone.getD j false with
        | true =>
          simp only [Bool.not_true, Bool.false_eq_true, if_false]
          rw [if_pos hb] at e
          exact led_k ⟨_, _, rfl, ⟨j + 1, by omega, by omega, e.symm⟩, by omega⟩
        | false =>
          simp only [Bool.not_false, if_true]
          rw [if_neg (by rw [hb]; simp)] at e
          exact led_k ⟨_, _, rfl, ⟨j + 1, by omega, by omega, e.symm⟩, by omega⟩
      · obtain rfl : j = G.n := by omega
        rfl) (G.n : Int) 0 ⟨0, rfl, by omega, rfl⟩
  obtain ⟨z, hz, rfl⟩ := key
  refine leastP.is_fn _ _ _ _ ?_
  unfold leastP.run'
  simp only [N.pre, N.fn, gr_some, Option.isSome_some, hz, if_true]
def goOne (G : Gr) (k : Int) (s : List Bool × List Int) (u : Nat) : List Bool × List Int := if s.1.getD u false = false ∧ Hx.inSet (Hx.here s.1) (nbsOf G u) ≤ k then (s.1.set u true, s.2 ++ [(u : Int)]) else s
def passTo (G : Gr) (k : Int) (s : List Bool × List Int) (j : Nat) : List Bool × List Int := (List.range j).foldl (goOne G k) s
theorem passTo_succ (G : Gr) (k : Int) (s : List Bool × List Int) (j : Nat) : passTo G k s (j + 1) = goOne G k (passTo G k s j) j := by
  unfold passTo
  rw [List.range_succ, List.foldl_append]
  rfl
theorem count_setT : ∀ (l : List Bool) (v : Nat), v < l.length → l.getD v false = false → (l.set v true).count true = l.count true + 1
  | [], v, hv, h => by simp at hv
  | x :: l, 0, hv, h => by
    have : x = false := by simpa using h
    subst this
    simp
  | x :: l, v + 1, hv, h => by
    have ih := count_setT l v (by simpa using hv) (by simpa using h)
    cases x <;> simp only [List.set_cons_succ, List.count_cons] <;> omega
/-- Those that have gone are as many as stand in the order. -/
def Even (G : Gr) (s : List Bool × List Int) : Prop := s.1.length = G.n ∧ s.1.count true = s.2.length
theorem Even.le {G : Gr} {s : List Bool × List Int} (h : Even G s) : s.2.length ≤ G.n := by
  have := List.count_le_length (a := true) (l := s.1)
  rw [← h.2, ← h.1]
  exact this
theorem Even.go {G : Gr} {k : Int} {s : List Bool × List Int} (h : Even G s) {u : Nat} (hu : u < G.n) : Even G (goOne G k s u) := by
  unfold goOne
  split
  · rename_i c
    exact ⟨by simpa using h.1, by simp only [List.length_append, List.length_singleton]; rw [count_setT _ _ (by rw [h.1]; exact hu) c.1, h.2]⟩
  · exact h
theorem OrderP.F7_is {G : Gr} (hG : G.Ok) (hn : G.n ≤ 4096) {k was : Int} {s : List Bool × List Int} (hs : Even G s) :
    OrderP.F7 k was (G.n : Int) 0 (some G) ((G.n : Int) - s.2.length) s.2 s.1 (leftsOf G s.1) = some ((k, was, ()), ((some G, (G.n : Int) - (passTo G k s G.n).2.length, ()), (passTo G k s G.n).2, leftsOf G (passTo G k s G.n).1, (passTo G k s G.n).1, ())) ∧ Even G (passTo G k s G.n) := by
  have key := OrderP.F7_inv (k5 := k) (was6 := was) (t24 := (G.n : Int))
    (fun t c m r1 r2 r3 => ∃ j : Nat, t = (j : Int) ∧ j ≤ G.n ∧ c = some G ∧ Even G (passTo G k s j) ∧ m = (G.n : Int) - (passTo G k s j).2.length ∧ r1 = (passTo G k s j).2 ∧ r2 = (passTo G k s j).1 ∧ r3 = leftsOf G (passTo G k s j).1)
    (fun t _ _ _ _ _ => G.n - t.toNat)
    (fun z => z = ((k, was, ()), ((some G, (G.n : Int) - (passTo G k s G.n).2.length, ()), (passTo G k s G.n).2, leftsOf G (passTo G k s G.n).1, (passTo G k s G.n).1, ())) ∧ Even G (passTo G k s G.n)) (fun t c m r1 r2 r3 hI => by
      obtain ⟨j, rfl, hj, rfl, hE, rfl, rfl, rfl, rfl⟩ := hI
      obtain ⟨p, hp⟩ : ∃ p, p = passTo G k s j := ⟨_, rfl⟩
      have e := passTo_succ G k s j
      rw [← hp] at hE e ⊢
      have hle := hE.le
      unfold OrderP.R7
      refine led_dif (fun q1 => ?_) (fun q1 => led_x ?_)
      · have hjn : j < G.n := by omega
        have hE2 := hE.go (k := k) hjn
        have hw : IntKind.wrap .i64 ((j : Int) + 1) = (j : Int) + 1 := wr (by omega) (by omega)
        have a1 : (0 : Int) ≤ (j : Int) := by omega
        have a2 : (j : Int) < (p.1.length : Int) := by rw [hE.1]; omega
        have a3 : (j : Int) < ((leftsOf G p.1).length : Int) := by rw [leftsOf_len]; omega
        simp only [Int.toNat_natCast, hw, a1, a2, a3, leftsOf_at hjn, if_true]
        cases hb : p.1.getD j false with
        | true =>
          have e2 : goOne G k p j = p := by unfold goOne; rw [if_neg (fun q => by rw [hb] at q; cases q.1)]
          rw [e2] at e
          simp only [Bool.not_true, Bool.false_eq_true, if_false]
          exact led_k ⟨_, _, _, _, _, _, rfl, ⟨j + 1, by omega, by omega, rfl, by rw [e]; exact hE, by rw [e], by rw [e], by rw [e], by rw [e]⟩, by omega⟩
        | false =>
          simp only [Bool.not_false, if_true]
          by_cases hk : Hx.inSet (Hx.here p.1) (nbsOf G j) ≤ k
          · have e2 : goOne G k p j = (p.1.set j true, p.2 ++ [(j : Int)]) := by unfold goOne; rw [if_pos ⟨hb, hk⟩]
            rw [e2] at e hE2
            have g := goesP.is hG hn hE.1 hjn hb (m := (G.n : Int) - p.2.length) ⟨by omega, by omega⟩
            have room : (p.2.length + [(j : Int)].length) * 8 ≤ 140737488355328 := by simp; omega
            simp only [hk, decide_true, g.1, g.2, room, if_true]
            refine led_k ⟨_, _, _, _, _, _, rfl, ⟨j + 1, by omega, by omega, rfl, by rw [e]; exact hE2, ?_, by rw [e], by rw [e], by rw [e]⟩, by omega⟩
            rw [e]
            simp only [List.length_append, List.length_singleton]
            omega
          · have e2 : goOne G k p j = p := by unfold goOne; rw [if_neg (fun q => hk q.2)]
            rw [e2] at e
            simp only [hk, decide_false, Bool.false_eq_true, if_false]
            exact led_k ⟨_, _, _, _, _, _, rfl, ⟨j + 1, by omega, by omega, rfl, by rw [e]; exact hE, by rw [e], by rw [e], by rw [e], by rw [e]⟩, by omega⟩
      · obtain rfl : j = G.n := by omega
        rw [hp]
        exact ⟨rfl, by rw [← hp]; exact hE⟩) 0 (some G) _ s.2 s.1 (leftsOf G s.1) ⟨0, rfl, by omega, rfl, hs, rfl, rfl, rfl, rfl⟩
  obtain ⟨z, hz, rfl, h⟩ := key
  exact ⟨hz, h⟩
/-- An order's run: passes, and the least number of neighbours where a pass took nobody. -/
inductive Run (G : Gr) : List Bool × List Int → Int → List Int → Prop
  | done {s : List Bool × List Int} {k : Int} : G.n ≤ s.2.length → Run G s k s.2
  | took {s : List Bool × List Int} {k : Int} {r : List Int} : s.2.length < G.n → (passTo G k s G.n).2.length ≠ s.2.length → Run G (passTo G k s G.n) k r → Run G s k r
  | none {s : List Bool × List Int} {k : Int} {r : List Int} : s.2.length < G.n → (passTo G k s G.n).2.length = s.2.length → Run G (passTo G k s G.n) (leastTo G.n (leftsOf G (passTo G k s G.n).1) (passTo G k s G.n).1 G.n) r → Run G s k r
theorem Run.uniq {G : Gr} {s : List Bool × List Int} {k : Int} {a b : List Int} (h : Run G s k a) : Run G s k b → a = b := by
  induction h with
  | done h1 => intro h; cases h with
    | done h2 => rfl
    | took h2 h3 h4 => omega
    | none h2 h3 h4 => omega
  | took h1 h2 h3 ih => intro h; cases h with
    | done h4 => omega
    | took h4 h5 h6 => exact ih h6
    | none h4 h5 h6 => exact absurd h5 h2
  | none h1 h2 h3 ih => intro h; cases h with
    | done h4 => omega
    | took h4 h5 h6 => exact absurd h2 h5
    | none h4 h5 h6 => exact ih h6
theorem goOne_len (G : Gr) (k : Int) (s : List Bool × List Int) (u : Nat) : s.2.length ≤ (goOne G k s u).2.length ∧ ((goOne G k s u).2.length = s.2.length → goOne G k s u = s) := by
  unfold goOne
  split
  · simp
  · simp
theorem passTo_len (G : Gr) (k : Int) (s : List Bool × List Int) : ∀ j, s.2.length ≤ (passTo G k s j).2.length ∧ ((passTo G k s j).2.length = s.2.length → passTo G k s j = s)
  | 0 => ⟨Nat.le_refl _, fun _ => rfl⟩
  | j + 1 => by
    obtain ⟨h1, h2⟩ := passTo_len G k s j
    rw [passTo_succ]
    obtain ⟨h3, h4⟩ := goOne_len G k (passTo G k s j) j
    refine ⟨by omega, fun h => ?_⟩
    rw [h4 (by omega)]
    exact h2 (by omega)
theorem passTo_mono (G : Gr) (k : Int) (s : List Bool × List Int) {i j : Nat} (h : i ≤ j) : (passTo G k s i).2.length ≤ (passTo G k s j).2.length := by
  induction j with
  | zero => have : i = 0 := by omega
            subst this; exact Nat.le_refl _
  | succ j ih =>
    rcases Nat.lt_or_ge i (j + 1) with q | q
    · have := ih (by omega)
      rw [passTo_succ]
      have := (goOne_len G k (passTo G k s j) j).1
      omega
    · have : i = j + 1 := by omega
      subst this; exact Nat.le_refl _
/-- Somebody who may go goes. -/
theorem pass_takes {G : Gr} {k : Int} {s : List Bool × List Int} {u : Nat} (hu : u < G.n) (hg : s.1.getD u false = false) (hk : Hx.inSet (Hx.here s.1) (nbsOf G u) ≤ k) : (passTo G k s G.n).2.length ≠ s.2.length := fun h => by
  have h1 := passTo_mono G k s (show u + 1 ≤ G.n by omega)
  have h2 := (passTo_len G k s (u + 1)).1
  have h3 := (passTo_len G k s (u + 1)).2 (by omega)
  have h4 := (passTo_len G k s u).2 (by have := passTo_mono G k s (show u ≤ u + 1 by omega); have := (passTo_len G k s u).1; omega)
  rw [passTo_succ, h4] at h3
  unfold goOne at h3
  rw [if_pos ⟨hg, hk⟩] at h3
  have := congrArg (fun x => x.2.length) h3
  simp at this
theorem leastTo_le {n : Nat} {left : List Int} {gone : List Bool} : ∀ {j u : Nat}, u < j → gone.getD u false = false → leastTo n left gone j ≤ left.getD u 0
  | j + 1, u, h, hg => by
    rw [leastTo_succ]
    by_cases e : u = j
    · subst e
      rw [if_neg (by rw [hg]; simp)]
      split <;> omega
    · have ih := leastTo_le (n := n) (left := left) (gone := gone) (j := j) (u := u) (by omega) hg
      split
      · exact ih
      · split <;> omega
theorem leastTo_eq {n : Nat} {left : List Int} {gone : List Bool} : ∀ j : Nat, leastTo n left gone j = n ∨ ∃ u, u < j ∧ gone.getD u false = false ∧ left.getD u 0 = leastTo n left gone j
  | 0 => .inl rfl
  | j + 1 => by
    rw [leastTo_succ]
    have ih := leastTo_eq (n := n) (left := left) (gone := gone) j
    by_cases hj : gone.getD j false = true
    · rw [if_pos hj]
      exact ih.imp id (fun ⟨u, h1, h2, h3⟩ => ⟨u, by omega, h2, h3⟩)
    · rw [if_neg hj]
      have hj' : gone.getD j false = false := by cases h : gone.getD j false with
        | true => exact absurd h hj
        | false => rfl
      by_cases hlt : left.getD j 0 < leastTo n left gone j
      · rw [if_pos hlt]
        exact .inr ⟨j, by omega, hj', rfl⟩
      · rw [if_neg hlt]
        exact ih.imp id (fun ⟨u, h1, h2, h3⟩ => ⟨u, by omega, h2, h3⟩)
theorem exists_left {l : List Bool} (h : l.count true < l.length) : ∃ u, u < l.length ∧ l.getD u false = false := by
  induction l with
  | nil => simp at h
  | cons x l ih =>
    cases x with
    | false => exact ⟨0, by simp, rfl⟩
    | true =>
      simp only [List.count_cons, List.length_cons] at h
      obtain ⟨u, h1, h2⟩ := ih (by simp at h; omega)
      exact ⟨u + 1, by simpa using h1, by simpa using h2⟩
/-- Behind a pass that took nobody the next one takes somebody. -/
theorem least_takes {G : Gr} (hG : G.Ok) {s : List Bool × List Int} (hE : Even G s) (hlt : s.2.length < G.n) : (passTo G (leastTo G.n (leftsOf G s.1) s.1 G.n) s G.n).2.length ≠ s.2.length := by
  obtain ⟨u, h1, h2⟩ := exists_left (l := s.1) (by rw [hE.1, hE.2]; exact hlt)
  rw [hE.1] at h1
  have hb : (leftsOf G s.1).getD u 0 < G.n := by
    rw [leftsOf_at h1]
    have h3 := Hx.inSet_le (Hx.here s.1) (nbsOf G u)
    have h4 : (nbsOf G u).length < G.n := by
      rw [show (nbsOf G u).length = (G.nb u).length from up_length _]
      have hn : (G.nb u).length + 1 ≤ G.n := by
        have hni : u ∉ G.nb u := fun h => by
          have := (Gr.mem_nb hG).1 h
          rw [hG.irr] at this
          exact absurd this (by simp)
        have hnd : (u :: G.nb u).Nodup := List.nodup_cons.2 ⟨hni, List.Pairwise.filter _ List.nodup_range⟩
        have hsub : (u :: G.nb u) ⊆ List.range G.n := fun x hx => by
          rcases List.mem_cons.1 hx with rfl | hx
          · exact List.mem_range.2 h1
          · exact List.mem_range.2 (hG.rng' ((Gr.mem_nb hG).1 hx))
        have := hnd.length_le_of_subset hsub
        simpa using this
      omega
    omega
  rcases leastTo_eq (n := G.n) (left := leftsOf G s.1) (gone := s.1) G.n with h | ⟨x, g1, g2, g3⟩
  · have := leastTo_le (n := G.n) (left := leftsOf G s.1) (gone := s.1) (j := G.n) h1 h2
    omega
  · rw [leftsOf_at g1] at g3
    exact pass_takes g1 g2 (by omega)
theorem Even.pass {G : Gr} {k : Int} {s : List Bool × List Int} (h : Even G s) : ∀ {j : Nat}, j ≤ G.n → Even G (passTo G k s j)
  | 0, _ => h
  | j + 1, hj => by
    rw [passTo_succ]
    exact (Even.pass h (j := j) (by omega)).go (by omega)
/-- How far a run still goes. -/
noncomputable def far (G : Gr) (s : List Bool × List Int) (k : Int) : Nat := 2 * (G.n - s.2.length) + if (passTo G k s G.n).2.length = s.2.length then 1 else 0
theorem far_took {G : Gr} {s : List Bool × List Int} {k : Int} (h : s.2.length < G.n) (hc : (passTo G k s G.n).2.length ≠ s.2.length) : far G (passTo G k s G.n) k < far G s k := by
  unfold far
  have := (passTo_len G k s G.n).1
  rw [if_neg hc]
  split <;> omega
theorem far_none {G : Gr} (hG : G.Ok) {s : List Bool × List Int} {k : Int} (hE : Even G s) (h : s.2.length < G.n) (hc : (passTo G k s G.n).2.length = s.2.length) : far G (passTo G k s G.n) (leastTo G.n (leftsOf G (passTo G k s G.n).1) (passTo G k s G.n).1 G.n) < far G s k := by
  have e := (passTo_len G k s G.n).2 hc
  have ht := least_takes hG hE h
  rw [e]
  unfold far
  rw [if_neg ht, if_pos hc]
  omega
theorem run_ex {G : Gr} (hG : G.Ok) : ∀ (m : Nat) (s : List Bool × List Int) (k : Int), Even G s → far G s k ≤ m → ∃ r, Run G s k r := by
  intro m
  induction m with
  | zero =>
    intro s k hE hm
    unfold far at hm
    exact ⟨_, .done (by omega)⟩
  | succ m ih =>
    intro s k hE hm
    rcases Nat.lt_or_ge s.2.length G.n with h | h
    · by_cases hc : (passTo G k s G.n).2.length = s.2.length
      · obtain ⟨r, hr⟩ := ih (passTo G k s G.n) (leastTo G.n (leftsOf G (passTo G k s G.n).1) (passTo G k s G.n).1 G.n) (hE.pass (Nat.le_refl _)) (by have := far_none hG hE h hc; omega)
        exact ⟨r, .none h hc hr⟩
      · obtain ⟨r, hr⟩ := ih (passTo G k s G.n) k (hE.pass (Nat.le_refl _)) (by have := far_took h hc; omega)
        exact ⟨r, .took h hc hr⟩
    · exact ⟨_, .done h⟩
open Classical in
/-- The order of a graph. -/
noncomputable def orderOf (G : Gr) : List Int := if h : ∃ r, Run G (List.replicate G.n false, []) 0 r then Classical.choose h else []
theorem orderOf_is {G : Gr} {r : List Int} (h : Run G (List.replicate G.n false, []) 0 r) : orderOf G = r := by
  unfold orderOf
  rw [dif_pos ⟨r, h⟩]
  exact (Classical.choose_spec (⟨r, h⟩ : ∃ r, Run G (List.replicate G.n false, []) 0 r)).uniq h
theorem even0 (G : Gr) : Even G (List.replicate G.n false, []) := ⟨by simp, by simp [List.count_replicate]⟩
theorem OrderP.is {G : Gr} (hG : G.Ok) (hn : G.n ≤ 4096) : OrderP.pre (some G) = true ∧ OrderP.fn (some G) = (orderOf G, ()) := by
  obtain ⟨r, hr⟩ := run_ex hG _ _ 0 (even0 G) (Nat.le_refl _)
  have key := OrderP.F4_inv
    (fun k c m r1 r2 r3 => ∃ s : List Bool × List Int, Even G s ∧ Run G s k r ∧ c = some G ∧ m = (G.n : Int) - s.2.length ∧ r1 = s.2 ∧ r2 = leftsOf G s.1 ∧ r3 = s.1)
    (fun k _ _ r1 _ r3 => far G (r3, r1) k) (fun z => z = ((), (r, ()))) (fun k c m r1 r2 r3 hI => by
      obtain ⟨s, hE, hR, rfl, rfl, rfl, rfl, rfl⟩ := hI
      have hle := hE.le
      unfold OrderP.R4
      refine led_dif (fun q1 => ?_) (fun q1 => led_x ?_)
      · have hlt : s.2.length < G.n := by omega
        obtain ⟨g1, g2⟩ := OrderP.F7_is hG hn (k := k) (was := (G.n : Int) - s.2.length) hE
        have g3 := (passTo_len G k s G.n).1
        simp only [hE.1, g1]
        by_cases hc : (passTo G k s G.n).2.length = s.2.length
        · have hb : (((G.n : Int) - (passTo G k s G.n).2.length) == ((G.n : Int) - s.2.length)) = true := by rw [hc]; simp
          obtain ⟨l1, l2⟩ := leastP.is hG hn (left := leftsOf G (passTo G k s G.n).1) (gone := (passTo G k s G.n).1) (leftsOf_len _ _) g2.1 ((G.n : Int) - (passTo G k s G.n).2.length)
          simp only [hb, l1, l2, if_true]
          refine led_k ⟨_, _, _, _, _, _, rfl, ⟨_, g2, ?_, rfl, rfl, rfl, rfl, rfl⟩, far_none hG hE hlt hc⟩
          cases hR with
          | done h => omega
          | took h1 h2 h3 => exact absurd hc h2
          | none h1 h2 h3 => exact h3
        · have hb : ¬ (((G.n : Int) - (passTo G k s G.n).2.length) == ((G.n : Int) - s.2.length)) = true := by simp; omega
          simp only [hb, Bool.false_eq_true, if_false]
          refine led_k ⟨_, _, _, _, _, _, rfl, ⟨_, g2, ?_, rfl, rfl, rfl, rfl, rfl⟩, far_took hlt hc⟩
          cases hR with
          | done h => omega
          | took h1 h2 h3 => exact h3
          | none h1 h2 h3 => exact absurd h2 hc
      · cases hR with
        | done h => rfl
        | took h1 h2 h3 => omega
        | none h1 h2 h3 => omega) 0 (some G) (G.n : Int) [] (leftsOf G (List.replicate G.n false)) (List.replicate G.n false) ⟨_, even0 G, hr, rfl, by simp, rfl, rfl, rfl⟩
  obtain ⟨z, hz, rfl⟩ := key
  refine OrderP.is_fn _ ?_
  unfold OrderP.run'
  have hp : peelP.pre (some G) = true := show (true && decide (G.n ≤ 4096)) = true by rw [decide_eq_true hn]; rfl
  have hf : peelP.fn (some G) = (some (some G, leftsOf G (List.replicate G.n false), List.replicate G.n false, (G.n : Int), false), ()) := by
    unfold peelP.fn
    rw [gr_some, degs_lefts]
    rfl
  rw [if_pos hp, hf]
  change (match OrderP.F4 0 (some G) (G.n : Int) [] (leftsOf G (List.replicate G.n false)) (List.replicate G.n false) with
    | some ((_, (r0_2, _))) => some (r0_2, ())
    | none => none) = some (orderOf G, ())
  rw [hz, orderOf_is hr]
end Go.Proofs.Ythbojpaghbbnnaa.Z
namespace Go.Proofs.Ythbojpaghbbnnaa.Z
open Go Go.RowKit
set_option linter.unusedVariables false
set_option linter.unusedSimpArgs false
theorem nb_lt {G : Gr} (hG : G.Ok) {u : Nat} (h1 : u < G.n) : (G.nb u).length < G.n := by
  have hni : u ∉ G.nb u := fun h => by
    have := (Gr.mem_nb hG).1 h
    rw [hG.irr] at this
    exact absurd this (by simp)
  have hnd : (u :: G.nb u).Nodup := List.nodup_cons.2 ⟨hni, List.Pairwise.filter _ List.nodup_range⟩
  have hsub : (u :: G.nb u) ⊆ List.range G.n := fun x hx => by
    rcases List.mem_cons.1 hx with rfl | hx
    · exact List.mem_range.2 h1
    · exact List.mem_range.2 (hG.rng' ((Gr.mem_nb hG).1 hx))
  have := hnd.length_le_of_subset hsub
  simp at this
  omega
end Go.Proofs.Ythbojpaghbbnnaa.Z
namespace Go.Proofs.Ythbojpaghbbnnaa.Z
open Go Go.RowKit
set_option linter.unusedVariables false
set_option linter.unusedSimpArgs false
/-- Those below j that go at k. -/
def nowTo (G : Gr) (k : Int) (g : List Bool) (j : Nat) : List Nat := (List.range j).filter (fun u => !g.getD u false && decide (Hx.inSet (Hx.here g) (nbsOf G u) ≤ k))
theorem nowTo_succ (G : Gr) (k : Int) (g : List Bool) (j : Nat) : nowTo G k g (j + 1) = nowTo G k g j ++ if (!g.getD j false && decide (Hx.inSet (Hx.here g) (nbsOf G j) ≤ k)) = true then [j] else [] := by
  unfold nowTo
  rw [List.range_succ, List.filter_append, List.filter_cons, List.filter_nil]
theorem mem_now {G : Gr} {k : Int} {g : List Bool} {j u : Nat} : u ∈ nowTo G k g j ↔ u < j ∧ g.getD u false = false ∧ Hx.inSet (Hx.here g) (nbsOf G u) ≤ k := by
  unfold nowTo
  rw [List.mem_filter, List.mem_range, Bool.and_eq_true, decide_eq_true_eq, Bool.not_eq_true']
theorem now_nodup (G : Gr) (k : Int) (g : List Bool) (j : Nat) : (nowTo G k g j).Nodup := List.Pairwise.filter _ List.nodup_range
theorem now_len (G : Gr) (k : Int) (g : List Bool) (j : Nat) : (nowTo G k g j).length ≤ j := by
  unfold nowTo
  have := List.length_filter_le (fun u => !g.getD u false && decide (Hx.inSet (Hx.here g) (nbsOf G u) ≤ k)) (List.range j)
  rw [List.length_range] at this
  exact this
def wipe (l : List Nat) (g : List Bool) : List Bool := l.foldl (fun g u => g.set u true) g
def mark (l : List Nat) (r : Int) (o : List Int) : List Int := l.foldl (fun o u => o.set u r) o
theorem wipe_snoc (l : List Nat) (u : Nat) (g : List Bool) : wipe (l ++ [u]) g = (wipe l g).set u true := by
  unfold wipe
  rw [List.foldl_append]
  rfl
theorem mark_snoc (l : List Nat) (u : Nat) (r : Int) (o : List Int) : mark (l ++ [u]) r o = (mark l r o).set u r := by
  unfold mark
  rw [List.foldl_append]
  rfl
theorem wipe_len : ∀ (l : List Nat) (g : List Bool), (wipe l g).length = g.length
  | [], g => rfl
  | u :: l, g => by
    show (wipe l (g.set u true)).length = _
    rw [wipe_len l, List.length_set]
theorem mark_len : ∀ (l : List Nat) (r : Int) (o : List Int), (mark l r o).length = o.length
  | [], r, o => rfl
  | u :: l, r, o => by
    show (mark l r (o.set u r)).length = _
    rw [mark_len l, List.length_set]
theorem wipe_at : ∀ (l : List Nat) (g : List Bool) (u : Nat), u ∉ l → (wipe l g).getD u false = g.getD u false
  | [], g, u, _ => rfl
  | x :: l, g, u, h => by
    show (wipe l (g.set x true)).getD u false = _
    rw [wipe_at l _ u (fun q => h (List.mem_cons_of_mem _ q)), Hx.getD_setG, if_neg (fun q => h (by rw [q.1]; exact List.mem_cons_self ..))]
theorem wipe_in : ∀ (l : List Nat) (g : List Bool) (u : Nat), u < g.length → (u ∈ l ∨ g.getD u false = true) → (wipe l g).getD u false = true
  | [], g, u, _, h => h.elim (fun q => by cases q) id
  | x :: l, g, u, hu, h => by
    show (wipe l (g.set x true)).getD u false = _
    refine wipe_in l _ u (by rw [List.length_set]; exact hu) ?_
    by_cases e : x = u
    · exact .inr (by rw [Hx.getD_setG, if_pos ⟨e, by omega⟩])
    · rcases h with h | h
      · rcases List.mem_cons.1 h with q | q
        · exact absurd q.symm e
        · exact .inl q
      · exact .inr (by rw [Hx.getD_setG, if_neg (fun q => e q.1)]; exact h)
theorem mark_at : ∀ (l : List Nat) (r : Int) (o : List Int) (u : Nat), u ∉ l → (mark l r o).getD u 0 = o.getD u 0
  | [], r, o, u, _ => rfl
  | x :: l, r, o, u, h => by
    show (mark l r (o.set x r)).getD u 0 = _
    rw [mark_at l r _ u (fun q => h (List.mem_cons_of_mem _ q)), Hx.getD_set, if_neg (fun q => h (by rw [q.1]; exact List.mem_cons_self ..))]
theorem mark_in : ∀ (l : List Nat) (r : Int) (o : List Int) (u : Nat), u < o.length → (u ∈ l ∨ o.getD u 0 = r) → (mark l r o).getD u 0 = r
  | [], r, o, u, _, h => h.elim (fun q => by cases q) id
  | x :: l, r, o, u, hu, h => by
    show (mark l r (o.set x r)).getD u 0 = _
    refine mark_in l r _ u (by rw [List.length_set]; exact hu) ?_
    by_cases e : x = u
    · exact .inr (by rw [Hx.getD_set, if_pos ⟨e, by omega⟩])
    · rcases h with h | h
      · rcases List.mem_cons.1 h with q | q
        · exact absurd q.symm e
        · exact .inl q
      · exact .inr (by rw [Hx.getD_set, if_neg (fun q => e q.1)]; exact h)
theorem wipe_count : ∀ (l : List Nat) (g : List Bool), l.Nodup → (∀ u ∈ l, u < g.length ∧ g.getD u false = false) → (wipe l g).count true = g.count true + l.length
  | [], g, _, _ => rfl
  | x :: l, g, hn, h => by
    obtain ⟨h1, h2⟩ := List.nodup_cons.1 hn
    have hx := h x (List.mem_cons_self ..)
    have hh : ∀ u ∈ l, u < (g.set x true).length ∧ (g.set x true).getD u false = false := fun u hu => by
      have := h u (List.mem_cons_of_mem _ hu)
      refine ⟨by rw [List.length_set]; exact this.1, ?_⟩
      rw [Hx.getD_setG, if_neg (fun q => h1 (by rw [q.1]; exact hu)), this.2]
    show (wipe l (g.set x true)).count true = _
    rw [wipe_count l _ h2 hh, count_setT _ _ hx.1 hx.2, List.length_cons]
    omega
/-- The k of the next round. -/
def kOf (G : Gr) (g : List Bool) (k : Int) : Int := max k (leastTo G.n (leftsOf G g) g G.n)
/-- The rounds of the onion. -/
def onionTo (G : Gr) : Nat → List Bool → Int → Int → List Int → List Int
  | 0, _, _, _, o => o
  | f + 1, g, k, r, o => if g.count true = G.n then o else onionTo G f (wipe (nowTo G (kOf G g k) g G.n) g) (kOf G g k) (r + 1) (mark (nowTo G (kOf G g k) g G.n) r o)
def onionOf (G : Gr) : List Int := onionTo G G.n (List.replicate G.n false) 0 1 (List.replicate G.n 0)
theorem onionTo_full {G : Gr} {g : List Bool} (h : g.count true = G.n) (f : Nat) (k r : Int) (o : List Int) : onionTo G f g k r o = o := by
  cases f with
  | zero => rfl
  | succ f => unfold onionTo; rw [if_pos h]
theorem onionTo_step {G : Gr} {g : List Bool} (h : g.count true < G.n) (f : Nat) (k r : Int) (o : List Int) : onionTo G (f + 1) g k r o = onionTo G f (wipe (nowTo G (kOf G g k) g G.n) g) (kOf G g k) (r + 1) (mark (nowTo G (kOf G g k) g G.n) r o) := by
  rw [onionTo, if_neg (by omega)]
theorem least_at {G : Gr} (hG : G.Ok) {g : List Bool} (hl : g.length = G.n) (h : g.count true < G.n) : ∃ u, u < G.n ∧ g.getD u false = false ∧ Hx.inSet (Hx.here g) (nbsOf G u) = leastTo G.n (leftsOf G g) g G.n := by
  obtain ⟨u, h1, h2⟩ := exists_left (l := g) (by omega)
  rw [hl] at h1
  have h5 := nb_lt hG h1
  have h3 := Hx.inSet_le (Hx.here g) (nbsOf G u)
  rw [show (nbsOf G u).length = (G.nb u).length from up_length _] at h3
  rcases leastTo_eq (n := G.n) (left := leftsOf G g) (gone := g) G.n with h | ⟨x, g1, g2, g3⟩
  · have := leastTo_le (n := G.n) (left := leftsOf G g) (gone := g) (j := G.n) h1 h2
    rw [leftsOf_at h1] at this
    omega
  · rw [leftsOf_at g1] at g3
    exact ⟨x, g1, g2, g3⟩
theorem now_some {G : Gr} (hG : G.Ok) {g : List Bool} {k : Int} (hl : g.length = G.n) (h : g.count true < G.n) (hk : leastTo G.n (leftsOf G g) g G.n ≤ k) : nowTo G k g G.n ≠ [] := fun e => by
  obtain ⟨u, h1, h2, h3⟩ := least_at hG hl h
  have : u ∈ nowTo G k g G.n := mem_now.2 ⟨h1, h2, by omega⟩
  rw [e] at this
  cases this
theorem kOf_le {G : Gr} {g : List Bool} {k : Int} {j : Nat} (hj : j ≤ G.n) (h : nowTo G k g j ≠ []) : kOf G g k = k := by
  obtain ⟨u, hu⟩ := List.exists_mem_of_ne_nil _ h
  obtain ⟨h1, h2, h3⟩ := mem_now.1 hu
  have h4 := leastTo_le (n := G.n) (left := leftsOf G g) (gone := g) (j := G.n) (show u < G.n by omega) h2
  rw [leftsOf_at (by omega)] at h4
  unfold kOf
  omega
theorem kOf_gt {G : Gr} (hG : G.Ok) {g : List Bool} {k : Int} (hl : g.length = G.n) (h : g.count true < G.n) (h0 : nowTo G k g G.n = []) : kOf G g k = kOf G g (leastTo G.n (leftsOf G g) g G.n) := by
  have : ¬ leastTo G.n (leftsOf G g) g G.n ≤ k := fun q => now_some hG hl h q h0
  unfold kOf
  omega
theorem upD {l : List Nat} {i : Nat} (h : i < l.length) : (up l).getD i 0 = ((l.getD i 0 : Nat) : Int) := by simp [up, List.getD_eq_getElem?_getD, h]
theorem up_snoc (l : List Nat) (j : Nat) : up (l ++ [j]) = up l ++ [(j : Int)] := by simp [up]
theorem now_fresh {G : Gr} {k : Int} {g : List Bool} (hl : g.length = G.n) : ∀ u ∈ nowTo G k g G.n, u < g.length ∧ g.getD u false = false := fun u hu => by
  have := mem_now.1 hu
  exact ⟨by omega, this.2.1⟩
theorem not_take {l : List Nat} (h : l.Nodup) {i : Nat} (hi : i < l.length) : l.getD i 0 ∉ l.take i := fun hm => by
  have hnd2 : (l.take (i + 1)).Nodup := List.Pairwise.take h
  rw [take_snoc 0 l i hi] at hnd2
  exact (List.nodup_append.1 hnd2).2.2 _ hm _ (by simp) rfl
theorem OnionP.F8_is {G : Gr} (hn : G.n ≤ 4096) {rd k m : Int} {c : Option Gr} {o : List Int} {g : List Bool} (hl : g.length = G.n) :
    OnionP.F8 rd k (G.n : Int) 0 c m o [] g (leftsOf G g) = some ((rd, k, ()), ((c, m, ()), o, up (nowTo G k g G.n), leftsOf G g, g, ())) := by
  have key := OnionP.F8_inv (round5 := rd) (k6 := k) (t26 := (G.n : Int)) (c0x0 := c) (c0x3 := m) (r1 := o) (r3 := g) (r4 := leftsOf G g)
    (fun t r2 => ∃ j : Nat, t = (j : Int) ∧ j ≤ G.n ∧ r2 = up (nowTo G k g j)) (fun t _ => G.n - t.toNat)
    (fun z => z = ((rd, k, ()), ((c, m, ()), o, up (nowTo G k g G.n), leftsOf G g, g, ()))) (fun t r2 hI => by
      obtain ⟨j, rfl, hj, rfl⟩ := hI
      unfold OnionP.R8
      refine led_dif (fun q1 => ?_) (fun q1 => led_x ?_)
      · have hjn : j < G.n := by omega
        have hw : IntKind.wrap .i64 ((j : Int) + 1) = (j : Int) + 1 := wr (by omega) (by omega)
        have a1 : (0 : Int) ≤ (j : Int) := by omega
        have a2 : (j : Int) < (g.length : Int) := by omega
        have a3 : (j : Int) < ((leftsOf G g).length : Int) := by rw [leftsOf_len]; omega
        have e := nowTo_succ G k g j
        have hlen := now_len G k g j
        have room : ((up (nowTo G k g j)).length + [(j : Int)].length) * 8 ≤ 140737488355328 := by rw [up_length, List.length_singleton]; omega
        simp only [Int.toNat_natCast, hw, a1, a2, a3, leftsOf_at hjn, room, if_true]
        cases hb : g.getD j false with
        | true =>
          rw [hb] at e
          simp only [Bool.not_true, Bool.false_and, Bool.false_eq_true, if_false, List.append_nil] at e ⊢
          exact led_k ⟨_, _, rfl, ⟨j + 1, by omega, by omega, by rw [e]⟩, by omega⟩
        | false =>
          rw [hb] at e
          by_cases hk : Hx.inSet (Hx.here g) (nbsOf G j) ≤ k
          · simp only [hk, decide_true, Bool.not_false, Bool.true_and, if_true] at e ⊢
            exact led_k ⟨_, _, rfl, ⟨j + 1, by omega, by omega, by rw [e, up_snoc]⟩, by omega⟩
          · simp only [hk, decide_false, Bool.not_false, Bool.true_and, Bool.false_eq_true, if_false, if_true, List.append_nil] at e ⊢
            exact led_k ⟨_, _, rfl, ⟨j + 1, by omega, by omega, by rw [e]⟩, by omega⟩
      · obtain rfl : j = G.n := by omega
        rfl) 0 [] ⟨0, rfl, by omega, rfl⟩
  obtain ⟨z, hz, rfl⟩ := key
  exact hz
theorem OnionP.F16_is {G : Gr} (hG : G.Ok) (hn : G.n ≤ 4096) {rd k m : Int} {o : List Int} {g : List Bool} (hl : g.length = G.n) (ho : o.length = G.n) {l : List Nat} (hnd : l.Nodup) (hf : ∀ u ∈ l, u < g.length ∧ g.getD u false = false) (hll : l.length ≤ 4096) (hm : 0 ≤ m ∧ m ≤ 4096) :
    OnionP.F16 rd k ((up l).length : Int) 0 (some G) m o (up l) (leftsOf G g) g = some ((rd, k, ()), ((some G, m - l.length, ()), mark l rd o, leftsOf G (wipe l g), wipe l g, ())) := by
  have hul := up_length l
  have key := OnionP.F16_inv (round5 := rd) (k6 := k) (t56 := ((up l).length : Int)) (r2 := up l)
    (fun t c m' r1 r3 r4 => ∃ i : Nat, t = (i : Int) ∧ i ≤ l.length ∧ c = some G ∧ m' = m - i ∧ r1 = mark (l.take i) rd o ∧ r3 = leftsOf G (wipe (l.take i) g) ∧ r4 = wipe (l.take i) g) (fun t _ _ _ _ _ => l.length - t.toNat)
    (fun z => z = ((rd, k, ()), ((some G, m - l.length, ()), mark l rd o, leftsOf G (wipe l g), wipe l g, ()))) (fun t c m' r1 r3 r4 hI => by
      obtain ⟨i, rfl, hi, rfl, rfl, rfl, rfl, rfl⟩ := hI
      unfold OnionP.R16
      refine led_dif (fun q1 => ?_) (fun q1 => led_x ?_)
      · have hil : i < l.length := by omega
        have hw : IntKind.wrap .i64 ((i : Int) + 1) = (i : Int) + 1 := wr (by omega) (by omega)
        have hxi := upD hil
        have hnt := not_take hnd hil
        have tk := take_snoc 0 l i hil
        have hxm := mem_getD 0 l i hil
        obtain ⟨x, hx⟩ : ∃ x, x = l.getD i 0 := ⟨_, rfl⟩
        rw [← hx] at hxi hnt tk hxm
        have hxf := hf x hxm
        have hwl : (wipe (l.take i) g).length = G.n := by rw [wipe_len]; exact hl
        have hml : (mark (l.take i) rd o).length = G.n := by rw [mark_len]; exact ho
        have hg := goesP.is hG hn (gone := wipe (l.take i) g) hwl (v := x) (by omega) (by rw [wipe_at _ _ _ hnt]; exact hxf.2) (m := m - i) ⟨by omega, by omega⟩
        have a1 : (0 : Int) ≤ (i : Int) := by omega
        have a2 : (i : Int) < ((up l).length : Int) := by omega
        have a3 : (0 : Int) ≤ (x : Int) := by omega
        have a4 : (x : Int) < ((mark (l.take i) rd o).length : Int) := by omega
        have a5 : x < (mark (l.take i) rd o).length := by omega
        simp only [Int.toNat_natCast, hxi, hw, hg.1, hg.2, a1, a2, a3, a4, a5, if_true]
        refine led_k ⟨_, _, _, _, _, _, rfl, ⟨i + 1, by omega, by omega, rfl, by omega, ?_, ?_, ?_⟩, by omega⟩
        · rw [tk, mark_snoc]
        · rw [tk, wipe_snoc]
        · rw [tk, wipe_snoc]
      · obtain rfl : i = l.length := by omega
        rw [List.take_length]) 0 (some G) m o (leftsOf G g) g ⟨0, rfl, by omega, rfl, by omega, rfl, rfl, rfl⟩
  obtain ⟨z, hz, rfl⟩ := key
  exact hz
theorem OnionP.is {G : Gr} (hG : G.Ok) (hn : G.n ≤ 4096) : OnionP.pre (some G) = true ∧ OnionP.fn (some G) = (onionOf G, ()) := by
  have key := OnionP.F5_inv
    (fun rd k c m r1 r2 r3 => ∃ f : Nat, r3.length = G.n ∧ r1.length = G.n ∧ G.n - r3.count true ≤ f ∧ onionTo G f r3 k rd r1 = onionOf G ∧ 1 ≤ rd ∧ rd ≤ 1 + (r3.count true : Int) ∧ c = some G ∧ m = (G.n : Int) - r3.count true ∧ r2 = leftsOf G r3)
    (fun _ k _ _ _ _ r3 => 2 * (G.n - r3.count true) + if nowTo G k r3 G.n = [] then 1 else 0) (fun z => z = ((), (onionOf G, ()))) (fun rd k c m r1 r2 r3 hI => by
      obtain ⟨f, hl, ho, hf, he, hr1, hr2, rfl, rfl, rfl⟩ := hI
      have hcl := List.count_le_length (a := true) (l := r3)
      unfold OnionP.R5
      refine led_dif (fun q1 => ?_) (fun q1 => led_x ?_)
      · have hlt : r3.count true < G.n := by omega
        obtain ⟨f', rfl⟩ : ∃ f', f = f' + 1 := ⟨f - 1, by omega⟩
        simp only [hl, OnionP.F8_is hn hl]
        by_cases hc : nowTo G k r3 G.n = []
        · have hb : (((up (nowTo G k r3 G.n)).length : Int) == 0) = true := by rw [hc]; rfl
          obtain ⟨l1, l2⟩ := leastP.is hG hn (left := leftsOf G r3) (gone := r3) (leftsOf_len _ _) hl ((G.n : Int) - r3.count true)
          simp only [hb, l1, l2, if_true]
          refine led_k ⟨_, _, _, _, _, _, _, rfl, ⟨f' + 1, hl, ho, hf, ?_, hr1, hr2, rfl, rfl, rfl⟩, ?_⟩
          · rw [onionTo_step hlt, kOf_gt hG hl hlt hc] at he
            rw [onionTo_step hlt]
            exact he
          · rw [if_pos hc, if_neg (now_some hG hl hlt (Int.le_refl _))]
            omega
        · have hpos : 0 < (nowTo G k r3 G.n).length := List.length_pos_iff.2 hc
          have hb : ¬ (((up (nowTo G k r3 G.n)).length : Int) == 0) = true := by rw [up_length, beq_iff_eq]; omega
          have hnl := now_len G k r3 G.n
          have hwc := wipe_count _ _ (now_nodup G k r3 G.n) (now_fresh hl)
          have hwl := wipe_len (nowTo G k r3 G.n) r3
          have hcl2 := List.count_le_length (a := true) (l := wipe (nowTo G k r3 G.n) r3)
          have hw : IntKind.wrap .i64 (rd + 1) = rd + 1 := wr (by omega) (by omega)
          simp only [hb, OnionP.F16_is hG hn hl ho (now_nodup G k r3 G.n) (now_fresh hl) (by omega) (show 0 ≤ (G.n : Int) - r3.count true ∧ (G.n : Int) - r3.count true ≤ 4096 by omega), hw, if_false]
          refine led_k ⟨_, _, _, _, _, _, _, rfl, ⟨f', by omega, by rw [mark_len]; exact ho, by omega, ?_, by omega, by omega, rfl, by omega, rfl⟩, ?_⟩
          · rw [onionTo_step hlt, kOf_le (Nat.le_refl _) hc] at he
            exact he
          · rw [if_neg hc]
            split <;> omega
      · have hfull : r3.count true = G.n := by omega
        rw [onionTo_full hfull] at he
        rw [he]) 1 0 (some G) (G.n : Int) (List.replicate G.n 0) (leftsOf G (List.replicate G.n false)) (List.replicate G.n false)
    ⟨G.n, by simp, by simp, by omega, rfl, by omega, by omega, rfl, by simp [List.count_replicate], rfl⟩
  obtain ⟨z, hz, rfl⟩ := key
  refine OnionP.is_fn _ ?_
  unfold OnionP.run'
  have hp : peelP.pre (some G) = true := show (true && decide (G.n ≤ 4096)) = true by rw [decide_eq_true hn]; rfl
  have hf : peelP.fn (some G) = (some (some G, leftsOf G (List.replicate G.n false), List.replicate G.n false, (G.n : Int), false), ()) := by
    unfold peelP.fn
    rw [gr_some, degs_lefts]
    rfl
  have a1 : (0 : Int) ≤ (G.n : Int) := by omega
  have room : G.n * 8 ≤ 140737488355328 := by omega
  rw [if_pos hp, hf]
  change (if N.pre (some G) = true then (if (N.fn (some G)).1 = (N.fn (some G)).1 then (if (0 : Int) ≤ (N.fn (some G)).1 then (if Int.toNat (N.fn (some G)).1 * (8 : Nat) ≤ (140737488355328 : Nat) then (match OnionP.F5 1 0 (some G) (G.n : Int) (List.replicate (Int.toNat (N.fn (some G)).1) (0 : Int)) (leftsOf G (List.replicate G.n false)) (List.replicate G.n false) with
    | some ((_, (r0_3, _))) => some (r0_3, ())
    | none => none) else none) else none) else none) else none) = some (onionOf G, ())
  simp only [N.pre, N.fn, gr_some, Option.isSome_some, Int.toNat_natCast, a1, room, hz, if_true]
end Go.Proofs.Ythbojpaghbbnnaa.Z
namespace Go.Proofs.Ythbojpaghbbnnaa.Z
open Go Go.RowKit
set_option linter.unusedVariables false
set_option linter.unusedSimpArgs false
theorem ext_getD {α : Type} (d : α) {a b : List α} (hl : a.length = b.length) (h : ∀ i, i < a.length → a.getD i d = b.getD i d) : a = b := by
  refine List.ext_getElem? (fun i => ?_)
  rcases Nat.lt_or_ge i a.length with hi | hi
  · have := h i hi
    rw [List.getD_eq_getElem?_getD, List.getD_eq_getElem?_getD, List.getElem?_eq_getElem hi, List.getElem?_eq_getElem (show i < b.length by omega)] at this
    rw [List.getElem?_eq_getElem hi, List.getElem?_eq_getElem (show i < b.length by omega)]
    exact congrArg some this
  · rw [List.getElem?_eq_none hi, List.getElem?_eq_none (by omega)]
theorem range_map_at {α : Type} (d : α) (f : Nat → α) {n i : Nat} (h : i < n) : ((List.range n).map f).getD i d = f i := by
  rw [List.getD_eq_getElem?_getD, List.getElem?_map, List.getElem?_range h]
  rfl
/-- The edges between two that are kept. -/
def keepP (keep : List Bool) (p : Nat × Nat) : Bool := keep.getD p.1 false && keep.getD p.2 false
def insideE (G : Gr) (keep : List Bool) : Nat := G.pairs.countP (keepP keep)
theorem sq_le {a n : Nat} (h : a ≤ n) (hn : n ≤ 4096) : a * n ≤ 16777216 := Nat.le_trans (Nat.mul_le_mul (Nat.le_trans h hn) hn) (by decide)
/-- The greatest of some numbers, and of b. -/
def maxTo (b : Int) (l : List Int) : Int := l.foldl (fun n x => if x > n then x else n) b
theorem maxTo_snoc (b : Int) (l : List Int) (x : Int) : maxTo b (l ++ [x]) = if x > maxTo b l then x else maxTo b l := by
  unfold maxTo
  rw [List.foldl_append]
  rfl
theorem maxTo_ge : ∀ (l : List Int) (b : Int), b ≤ maxTo b l ∧ ∀ x ∈ l, x ≤ maxTo b l
  | [], b => ⟨Int.le_refl _, fun x h => by cases h⟩
  | y :: l, b => by
    have e : maxTo b (y :: l) = maxTo (if y > b then y else b) l := rfl
    obtain ⟨h1, h2⟩ := maxTo_ge l (if y > b then y else b)
    rw [e]
    have h3 : b ≤ (if y > b then y else b) ∧ y ≤ (if y > b then y else b) := by split <;> omega
    refine ⟨Int.le_trans h3.1 h1, fun x hx => ?_⟩
    rcases List.mem_cons.1 hx with rfl | hx
    · exact Int.le_trans h3.2 h1
    · exact h2 x hx
theorem maxTo_mem : ∀ (l : List Int) (b : Int), maxTo b l = b ∨ maxTo b l ∈ l
  | [], b => .inl rfl
  | y :: l, b => by
    have e : maxTo b (y :: l) = maxTo (if y > b then y else b) l := rfl
    rw [e]
    rcases maxTo_mem l (if y > b then y else b) with h | h
    · rw [h]
      split
      · exact .inr (List.mem_cons_self ..)
      · exact .inl rfl
    · exact .inr (List.mem_cons_of_mem _ h)
def coreAt (c : List Int) (k : Int) : List Bool := c.map (fun x => decide (x ≥ k))
/-- How many shells there are. -/
def tops (c : List Int) : Nat := (maxTo (-1) c + 1).toNat
def shellAt (G : Gr) (c : List Int) (k : Nat) : Int × (Int × Int) := ((k : Int), (c.count (k : Int) : Int), (insideE G (coreAt c (k : Int)) : Int))
def shellsTo (G : Gr) (c : List Int) (j : Nat) : List (Int × (Int × Int)) := (List.range j).map (shellAt G c)
theorem coresOf_len {G : Gr} (hG : G.Ok) (hn : G.n ≤ 4096) : (coresOf G).length = G.n := (coresOf_ok hG (by omega)).len
theorem coresOf_at {G : Gr} (hG : G.Ok) (hn : G.n ≤ 4096) {v : Nat} (hv : v < G.n) : ∃ k : Nat, (coresOf G).getD v 0 = (k : Int) ∧ k < G.n ∧ k ≤ (G.nb v).length := by
  have hc := coresOf_ok hG (show G.n ≤ 16777216 by omega)
  have h1 := hc.nonneg v hv
  have h2 := (hc.isin v hv).lt.2
  rw [show (nbsOf G v).length = (G.nb v).length from up_length _] at h2
  have h3 := nb_lt hG hv
  exact ⟨((coresOf G).getD v 0).toNat, by omega, by omega, by omega⟩
theorem max_cores {G : Gr} (hG : G.Ok) (hn : G.n ≤ 4096) : maxTo 0 (coresOf G) < 4096 ∧ 0 ≤ maxTo 0 (coresOf G) ∧ (0 < G.n → maxTo (-1) (coresOf G) = maxTo 0 (coresOf G)) ∧ (G.n = 0 → maxTo (-1) (coresOf G) = -1) ∧ ∀ v, v < G.n → (coresOf G).getD v 0 ≤ maxTo 0 (coresOf G) := by
  have hl := coresOf_len hG hn
  have h0 := maxTo_ge (coresOf G) 0
  have h1 := maxTo_ge (coresOf G) (-1)
  have hat : ∀ x ∈ coresOf G, 0 ≤ x ∧ x < 4096 := fun x hx => by
    obtain ⟨i, hi, rfl⟩ := List.getElem_of_mem hx
    obtain ⟨k, h1, h2, h3⟩ := coresOf_at hG hn (v := i) (by omega)
    rw [List.getD_eq_getElem?_getD, List.getElem?_eq_getElem hi] at h1
    have : (coresOf G)[i] = (k : Int) := h1
    omega
  refine ⟨?_, h0.1, fun hp => ?_, fun hz => ?_, fun v hv => h0.2 _ (mem_getD 0 _ v (by omega))⟩
  · rcases maxTo_mem (coresOf G) 0 with h | h
    · omega
    · exact (hat _ h).2
  · have m0 := mem_getD 0 (coresOf G) 0 (by omega)
    have b0 := hat _ m0
    have c1 := h1.2 _ m0
    have c0 := h0.2 _ m0
    rcases maxTo_mem (coresOf G) (-1) with h | h
    · omega
    · have d1 := h0.2 _ h
      rcases maxTo_mem (coresOf G) 0 with g | g
      · omega
      · have d2 := h1.2 _ g
        omega
  · have : coresOf G = [] := List.length_eq_zero_iff.1 (by omega)
    rw [this]
    rfl
noncomputable def shellsOf (G : Gr) : List (Int × (Int × Int)) := shellsTo G (coresOf G) (tops (coresOf G))
theorem count_snoc (l : List Int) (x k : Int) : (l ++ [x]).count k = l.count k + if (x == k) = true then 1 else 0 := by
  rw [List.count_append, List.count_singleton]
namespace ShellsP
abbrev z3 : Int × (Int × Int) := ((0 : Int), (0 : Int), (0 : Int))
theorem F4_is {g : Option Gr} {c : List Int} (hl : c.length ≤ 4096) : F4 g (-1) (c.length : Int) 0 c = some ((g, maxTo (-1) c, ()), (c, ())) := by
  have key := F4_inv (g0 := g) (t17 := (c.length : Int)) (r0 := c) (fun n i => ∃ j : Nat, i = (j : Int) ∧ j ≤ c.length ∧ n = maxTo (-1) (c.take j)) (fun _ i => c.length - i.toNat)
    (fun z => z = ((g, maxTo (-1) c, ()), (c, ()))) (fun n i hI => by
      obtain ⟨j, rfl, hj, rfl⟩ := hI
      unfold R4
      refine led_dif (fun q1 => ?_) (fun q1 => led_x ?_)
      · have hjl : j < c.length := by omega
        have hw : IntKind.wrap .i64 ((j : Int) + 1) = (j : Int) + 1 := wr (by omega) (by omega)
        have tk := take_snoc 0 c j hjl
        have a1 : (0 : Int) ≤ (j : Int) := by omega
        simp only [Int.toNat_natCast, hw, a1, q1, if_true]
        exact led_k ⟨_, _, rfl, ⟨j + 1, by omega, by omega, by rw [tk, maxTo_snoc]⟩, by omega⟩
      · rw [List.take_of_length_le (by omega)]) (-1) 0 ⟨0, rfl, by omega, rfl⟩
  obtain ⟨z, hz, rfl⟩ := key
  exact hz
theorem F10_is {g : Option Gr} {top : Int} {c : List Int} {T : Nat} (hT : T ≤ 4096) : ∃ r, F10 g top (T : Int) 0 c (List.replicate T z3) = some ((g, top, ()), (c, r, ())) ∧ r.length = T ∧ ∀ k, k < T → r.getD k z3 = ((k : Int), 0, 0) := by
  have key := F10_inv (g0 := g) (top4 := top) (t30 := (T : Int)) (r0 := c) (fun i r => ∃ j : Nat, i = (j : Int) ∧ j ≤ T ∧ r.length = T ∧ ∀ k, k < T → r.getD k z3 = (if k < j then (k : Int) else 0, 0, 0)) (fun i _ => T - i.toNat)
    (fun z => ∃ r, z = ((g, top, ()), (c, r, ())) ∧ r.length = T ∧ ∀ k, k < T → r.getD k z3 = ((k : Int), 0, 0)) (fun i r hI => by
      obtain ⟨j, rfl, hj, hr, hx⟩ := hI
      unfold R10
      refine led_dif (fun q1 => ?_) (fun q1 => led_x ⟨r, rfl, hr, fun k hk => by rw [hx k hk, if_pos (by omega)]⟩)
      have hjT : j < T := by omega
      have hw : IntKind.wrap .i64 ((j : Int) + 1) = (j : Int) + 1 := wr (by omega) (by omega)
      have a1 : (0 : Int) ≤ (j : Int) := by omega
      have a2 : (j : Int) < (r.length : Int) := by omega
      have a3 : j < r.length := by omega
      have hxj := hx j hjT
      simp only [Int.toNat_natCast, hw, a1, a2, a3, hxj, if_true]
      refine led_k ⟨_, _, rfl, ⟨j + 1, by omega, by omega, by rw [List.length_set]; exact hr, fun k hk => ?_⟩, by omega⟩
      rw [getD_setP]
      by_cases e : j = k
      · subst e
        rw [if_pos ⟨rfl, a3⟩, if_pos (by omega)]
      · rw [if_neg (fun q => e q.1), hx k hk]
        by_cases h : k < j
        · rw [if_pos h, if_pos (by omega)]
        · rw [if_neg h, if_neg (by omega)]) 0 (List.replicate T z3) ⟨0, rfl, by omega, by simp, fun k hk => by rw [Hx.getD_rep, if_neg (by omega)]⟩
  obtain ⟨z, hz, r, rfl, h⟩ := key
  exact ⟨r, hz, h⟩
theorem F15_is {g : Option Gr} {top : Int} {c : List Int} {T : Nat} (hl : c.length ≤ 4096) (hc : ∀ v, v < c.length → 0 ≤ c.getD v 0 ∧ c.getD v 0 < T) {r0 : List (Int × (Int × Int))} (h0 : r0.length = T) (hr0 : ∀ k, k < T → r0.getD k z3 = ((k : Int), 0, 0)) :
    ∃ r, F15 g top (c.length : Int) 0 c r0 = some ((g, top, ()), (c, r, ())) ∧ r.length = T ∧ ∀ k, k < T → r.getD k z3 = ((k : Int), (c.count (k : Int) : Int), 0) := by
  have key := F15_inv (g0 := g) (top4 := top) (t41 := (c.length : Int)) (r0 := c) (fun i r => ∃ j : Nat, i = (j : Int) ∧ j ≤ c.length ∧ r.length = T ∧ ∀ k, k < T → r.getD k z3 = ((k : Int), ((c.take j).count (k : Int) : Int), 0)) (fun i _ => c.length - i.toNat)
    (fun z => ∃ r, z = ((g, top, ()), (c, r, ())) ∧ r.length = T ∧ ∀ k, k < T → r.getD k z3 = ((k : Int), (c.count (k : Int) : Int), 0)) (fun i r hI => by
      obtain ⟨j, rfl, hj, hr, hx⟩ := hI
      unfold R15
      refine led_dif (fun q1 => ?_) (fun q1 => led_x ⟨r, rfl, hr, fun k hk => by rw [hx k hk, List.take_of_length_le (by omega)]⟩)
      have hjl : j < c.length := by omega
      have hw : IntKind.wrap .i64 ((j : Int) + 1) = (j : Int) + 1 := wr (by omega) (by omega)
      have tk := take_snoc 0 c j hjl
      obtain ⟨x, hxe⟩ : ∃ x : Nat, c.getD j 0 = (x : Int) := ⟨(c.getD j 0).toNat, by have := hc j hjl; omega⟩
      have hxT : x < T := by have := (hc j hjl).2; omega
      rw [hxe] at tk
      have hcl := List.count_le_length (a := (x : Int)) (l := c.take j)
      rw [List.length_take] at hcl
      have a1 : (0 : Int) ≤ (j : Int) := by omega
      have a2 : (0 : Int) ≤ (x : Int) := by omega
      have a3 : (x : Int) < (r.length : Int) := by omega
      have a4 : x < r.length := by omega
      have hxx := hx x hxT
      have hw2 : IntKind.wrap .i64 (((c.take j).count (x : Int) : Int) + 1) = ((c.take j).count (x : Int) : Int) + 1 := wr (by omega) (by omega)
      simp only [Int.toNat_natCast, hxe, hw, a1, a2, a3, a4, q1, hxx, hw2, if_true]
      refine led_k ⟨_, _, rfl, ⟨j + 1, by omega, by omega, by rw [List.length_set]; exact hr, fun k hk => ?_⟩, by omega⟩
      rw [getD_setP, tk, count_snoc]
      by_cases e : x = k
      · subst e
        rw [if_pos ⟨rfl, a4⟩, if_pos (by rw [beq_iff_eq])]
        rfl
      · rw [if_neg (fun q => e q.1), hx k hk, if_neg (by rw [beq_iff_eq]; omega)]
        rfl) 0 r0 ⟨0, rfl, by omega, h0, fun k hk => by rw [hr0 k hk]; rfl⟩
  obtain ⟨z, hz, r, rfl, h⟩ := key
  exact ⟨r, hz, h⟩
/-- The lesser core of a pair's ends. -/
def low (c : List Int) (p : Nat × Nat) : Int := min (c.getD p.1 0) (c.getD p.2 0)
theorem F20_is {top : Int} {c : List Int} {T : Nat} (hc : ∀ v, v < c.length → 0 ≤ c.getD v 0 ∧ c.getD v 0 < T) {ps : List (Nat × Nat)} (hps : ps.length ≤ 1099511627776) (hin : ∀ p ∈ ps, p.1 < c.length ∧ p.2 < c.length) {r0 : List (Int × (Int × Int))} (h0 : r0.length = T) (hr0 : ∀ k, k < T → r0.getD k z3 = ((k : Int), (c.count (k : Int) : Int), 0)) :
    ∃ r, F20 top (upP ps) ((upP ps).length : Int) 0 c r0 = some ((top, ()), (r, ())) ∧ r.length = T ∧ ∀ k, k < T → r.getD k z3 = ((k : Int), (c.count (k : Int) : Int), (ps.countP (fun p => low c p == (k : Int)) : Int)) := by
  have hul : (upP ps).length = ps.length := by unfold upP; rw [List.length_map]
  have key := F20_inv (top4 := top) (t56 := upP ps) (t57 := ((upP ps).length : Int)) (r0 := c) (fun i r => ∃ j : Nat, i = (j : Int) ∧ j ≤ ps.length ∧ r.length = T ∧ ∀ k, k < T → r.getD k z3 = ((k : Int), (c.count (k : Int) : Int), ((ps.take j).countP (fun p => low c p == (k : Int)) : Int))) (fun i _ => ps.length - i.toNat)
    (fun z => ∃ r, z = ((top, ()), (r, ())) ∧ r.length = T ∧ ∀ k, k < T → r.getD k z3 = ((k : Int), (c.count (k : Int) : Int), (ps.countP (fun p => low c p == (k : Int)) : Int))) (fun i r hI => by
      obtain ⟨j, rfl, hj, hr, hx⟩ := hI
      unfold R20
      refine led_dif (fun q1 => ?_) (fun q1 => led_x ⟨r, rfl, hr, fun k hk => by rw [hx k hk, List.take_of_length_le (by omega)]⟩)
      have hjl : j < ps.length := by omega
      have hw : IntKind.wrap .i64 ((j : Int) + 1) = (j : Int) + 1 := wr (by omega) (by omega)
      have tk := take_snoc (0, 0) ps j hjl
      have hm := mem_getD (0, 0) ps j hjl
      have hup : (upP ps).getD j ((0 : Int), (0 : Int)) = (((ps.getD j (0, 0)).1 : Int), ((ps.getD j (0, 0)).2 : Int)) := by
        simp [upP, List.getD_eq_getElem?_getD, hjl]
      obtain ⟨p, hp⟩ : ∃ p, p = ps.getD j (0, 0) := ⟨_, rfl⟩
      rw [← hp] at tk hm hup
      obtain ⟨u, v⟩ := p
      have huv := hin _ hm
      have hcu := hc u huv.1
      have hcv := hc v huv.2
      obtain ⟨x, hxe⟩ : ∃ x : Nat, (if c.getD v 0 < c.getD u 0 then c.getD v 0 else c.getD u 0) = (x : Int) ∧ low c (u, v) = (x : Int) := by
        have hlo : low c (u, v) = min (c.getD u 0) (c.getD v 0) := rfl
        rw [hlo]
        refine ⟨(min (c.getD u 0) (c.getD v 0)).toNat, ?_, ?_⟩
        · split <;> omega
        · omega
      have hxT : x < T := by
        have h1 := hxe.2
        rw [show low c (u, v) = min (c.getD u 0) (c.getD v 0) from rfl] at h1
        omega
      have hcl := List.countP_le_length (p := fun p => low c p == (x : Int)) (l := ps.take j)
      rw [List.length_take] at hcl
      have a1 : (0 : Int) ≤ (j : Int) := by omega
      have a2 : (0 : Int) ≤ (x : Int) := by omega
      have a3 : (x : Int) < (r.length : Int) := by omega
      have a4 : x < r.length := by omega
      have a5 : (j : Int) < ((upP ps).length : Int) := by omega
      have a6 : (0 : Int) ≤ (u : Int) := by omega
      have a7 : (0 : Int) ≤ (v : Int) := by omega
      have a8 : (u : Int) < (c.length : Int) := by omega
      have a9 : (v : Int) < (c.length : Int) := by omega
      have hxx := hx x hxT
      have hw2 : IntKind.wrap .i64 (((ps.take j).countP (fun p => low c p == (x : Int)) : Int) + 1) = ((ps.take j).countP (fun p => low c p == (x : Int)) : Int) + 1 := wr (by omega) (by omega)
      simp only [Int.toNat_natCast, hup, hxe.1, hw, a1, a2, a3, a4, a5, a6, a7, a8, a9, hxx, hw2, if_true]
      refine led_k ⟨_, _, rfl, ⟨j + 1, by omega, by omega, by rw [List.length_set]; exact hr, fun k hk => ?_⟩, by omega⟩
      rw [getD_setP, tk, List.countP_append, List.countP_singleton, hxe.2]
      by_cases e : x = k
      · subst e
        rw [if_pos ⟨rfl, a4⟩, if_pos (by rw [beq_iff_eq])]
        rfl
      · rw [if_neg (fun q => e q.1), hx k hk, if_neg (by rw [beq_iff_eq]; omega)]
        rfl) 0 r0 ⟨0, rfl, by omega, h0, fun k hk => by rw [hr0 k hk]; rfl⟩
  obtain ⟨z, hz, r, rfl, h⟩ := key
  exact ⟨r, hz, h⟩
theorem count_ge {α : Type} (f : α → Int) (k : Int) : ∀ l : List α, l.countP (fun p => f p == k) + l.countP (fun p => decide (f p ≥ k + 1)) = l.countP (fun p => decide (f p ≥ k))
  | [] => rfl
  | x :: l => by
    have ih := count_ge f k l
    simp only [List.countP_cons, beq_iff_eq, decide_eq_true_eq]
    split <;> split <;> split <;> omega
theorem F25_is {c : List Int} {T : Nat} (hT : T ≤ 4096) {ps : List (Nat × Nat)} (hps : ps.length ≤ 1099511627776) (hlow : ∀ p ∈ ps, low c p < T) {r0 : List (Int × (Int × Int))} (h0 : r0.length = T) (hr0 : ∀ k, k < T → r0.getD k z3 = ((k : Int), (c.count (k : Int) : Int), (ps.countP (fun p => low c p == (k : Int)) : Int))) :
    ∃ r, F25 ((T : Int) - 2) r0 = some ((), (r, ())) ∧ r.length = T ∧ ∀ k, k < T → r.getD k z3 = ((k : Int), (c.count (k : Int) : Int), (ps.countP (fun p => decide (low c p ≥ (k : Int))) : Int)) := by
  have key := F25_inv (fun i r => -2 ≤ i ∧ i ≤ (T : Int) - 2 ∧ r.length = T ∧ ∀ k, k < T → r.getD k z3 = ((k : Int), (c.count (k : Int) : Int), if i < (k : Int) then (ps.countP (fun p => decide (low c p ≥ (k : Int))) : Int) else (ps.countP (fun p => low c p == (k : Int)) : Int))) (fun i _ => (i + 2).toNat)
    (fun z => ∃ r, z = ((), (r, ())) ∧ r.length = T ∧ ∀ k, k < T → r.getD k z3 = ((k : Int), (c.count (k : Int) : Int), (ps.countP (fun p => decide (low c p ≥ (k : Int))) : Int))) (fun i r hI => by
      obtain ⟨hi1, hi2, hr, hx⟩ := hI
      unfold R25
      refine led_dif (fun q1 => ?_) (fun q1 => led_x ⟨r, rfl, hr, fun k hk => by rw [hx k hk, if_pos (by omega)]⟩)
      obtain ⟨j, rfl⟩ : ∃ j : Nat, i = (j : Int) := ⟨i.toNat, by omega⟩
      have hj : j + 1 < T := by omega
      have hw : IntKind.wrap .i64 ((j : Int) + 1) = ((j + 1 : Nat) : Int) := by rw [wr (by omega) (by omega)]; omega
      have hw1 : IntKind.wrap .i64 ((j : Int) - 1) = (j : Int) - 1 := wr (by omega) (by omega)
      have x1 := hx j (by omega)
      have x2 := hx (j + 1) (by omega)
      rw [if_neg (by omega)] at x1
      rw [if_pos (by omega)] at x2
      have cg := count_ge (low c) (j : Int) ps
      have cl := List.countP_le_length (p := fun p => decide (low c p ≥ (j : Int))) (l := ps)
      have e1 : ((j + 1 : Nat) : Int) = (j : Int) + 1 := by omega
      rw [e1] at x2
      have hw2 : IntKind.wrap .i64 ((ps.countP (fun p => low c p == (j : Int)) : Int) + (ps.countP (fun p => decide (low c p ≥ (j : Int) + 1)) : Int)) = (ps.countP (fun p => decide (low c p ≥ (j : Int))) : Int) := by
        rw [wr (by omega) (by omega)]; omega
      have a1 : (0 : Int) ≤ (j : Int) := by omega
      have a2 : (j : Int) < (r.length : Int) := by omega
      have a3 : (0 : Int) ≤ ((j + 1 : Nat) : Int) := by omega
      have a4 : ((j + 1 : Nat) : Int) < (r.length : Int) := by omega
      have a5 : j < r.length := by omega
      simp only [hw, hw1, Int.toNat_natCast, x1, x2, hw2, a1, a2, a3, a4, a5, if_true]
      refine led_k ⟨_, _, rfl, ⟨by omega, by omega, by rw [List.length_set]; exact hr, fun k hk => ?_⟩, by omega⟩
      rw [getD_setP]
      by_cases e : j = k
      · subst e
        rw [if_pos ⟨rfl, a5⟩, if_pos (by omega)]
      · rw [if_neg (fun q => e q.1), hx k hk]
        by_cases h : (j : Int) < (k : Int)
        · rw [if_pos h, if_pos (by omega)]
        · rw [if_neg h, if_neg (by omega)]) ((T : Int) - 2) r0 ⟨by omega, by omega, h0, fun k hk => by
      rw [hr0 k hk]
      by_cases h : (T : Int) - 2 < (k : Int)
      · rw [if_pos h]
        have : ps.countP (fun p => low c p == (k : Int)) = ps.countP (fun p => decide (low c p ≥ (k : Int))) := List.countP_congr (fun p hp => by
          have := hlow p hp
          rw [beq_iff_eq, decide_eq_true_eq]
          omega)
        rw [this]
      · rw [if_neg h]⟩
  obtain ⟨z, hz, r, rfl, h⟩ := key
  exact ⟨r, hz, h⟩
theorem low_core {c : List Int} {k : Int} {p : Nat × Nat} (h1 : p.1 < c.length) (h2 : p.2 < c.length) : decide (low c p ≥ k) = keepP (coreAt c k) p := by
  unfold low keepP coreAt
  have e : ∀ v, v < c.length → (c.map (fun x => decide (x ≥ k))).getD v false = decide (c.getD v 0 ≥ k) := fun v hv => by
    simp [List.getD_eq_getElem?_getD, hv]
  rw [e _ h1, e _ h2, ← Bool.decide_and]
  exact decide_eq_decide.2 (by omega)
theorem is {G : Gr} (hG : G.Ok) (hn : G.n ≤ 4096) : pre (some G) = true ∧ fn (some G) = (shellsOf G, ()) := by
  have hl := coresOf_len hG hn
  obtain ⟨m1, m2, m3, m4, m5⟩ := max_cores hG hn
  have hT : (maxTo (-1) (coresOf G) + 1) = (tops (coresOf G) : Int) := by
    unfold tops
    by_cases h : G.n = 0
    · rw [m4 h]; rfl
    · rw [m3 (by omega)]; omega
  have hT2 : tops (coresOf G) ≤ 4096 := by
    by_cases h : G.n = 0
    · rw [m4 h] at hT; omega
    · rw [m3 (by omega)] at hT; omega
  have hc : ∀ v, v < (coresOf G).length → 0 ≤ (coresOf G).getD v 0 ∧ (coresOf G).getD v 0 < tops (coresOf G) := fun v hv => by
    obtain ⟨k, h1, h2, h3⟩ := coresOf_at hG hn (v := v) (by omega)
    have := m5 v (by omega)
    rw [m3 (by omega)] at hT
    omega
  have hps : G.pairs.length ≤ 1099511627776 := by
    have h1 : G.pairs.length ≤ G.n * G.n := edges_le G
    have := sq_le (Nat.le_refl G.n) hn
    omega
  have hin : ∀ p ∈ G.pairs, p.1 < (coresOf G).length ∧ p.2 < (coresOf G).length := fun p hp => by
    obtain ⟨u, v⟩ := p
    have := (Gr.mem_pairs hG).1 hp
    have h1 := hG.rng u v this.2
    have h2 := hG.rng' this.2
    exact ⟨by omega, by omega⟩
  obtain ⟨r1, e1, l1, x1⟩ := F10_is (g := some G) (top := maxTo (-1) (coresOf G)) (c := coresOf G) hT2
  obtain ⟨r2, e2, l2, x2⟩ := F15_is (g := some G) (top := maxTo (-1) (coresOf G)) (show (coresOf G).length ≤ 4096 by omega) hc l1 x1
  obtain ⟨r3, e3, l3, x3⟩ := F20_is (top := maxTo (-1) (coresOf G)) hc hps hin l2 x2
  obtain ⟨r4, e4, l4, x4⟩ := F25_is hT2 hps (fun p hp => by
    have h := hin p hp
    have := hc _ h.1
    unfold low
    omega) l3 x3
  have hfin : r4 = shellsOf G := ext_getD z3 (by rw [l4]; unfold shellsOf shellsTo; rw [List.length_map, List.length_range]) (fun k hk => by
    rw [l4] at hk
    rw [x4 k hk]
    unfold shellsOf shellsTo
    rw [range_map_at z3 _ hk]
    unfold shellAt insideE
    rw [List.countP_congr (fun p hp => by rw [low_core (hin p hp).1 (hin p hp).2])])
  have hpP : Pairs.pre (some G) = true ∧ (Pairs.fn (some G)).1 = upP G.pairs := ⟨show (true && decide (G.n ≤ 4096)) = true by rw [decide_eq_true hn]; rfl, rfl⟩
  have hpC : Cores.pre (some G) = true := show (true && decide (G.n ≤ 4096)) = true by rw [decide_eq_true hn]; rfl
  have hfC : Cores.fn (some G) = (coresOf G, ()) := rfl
  have hw : IntKind.wrap .i64 (maxTo (-1) (coresOf G) + 1) = (tops (coresOf G) : Int) := by rw [hT, wr (by omega) (by omega)]
  have hw2 : IntKind.wrap .i64 (maxTo (-1) (coresOf G) - 1) = (tops (coresOf G) : Int) - 2 := by rw [← hT, wr (by omega) (by omega)]; omega
  have a1 : (0 : Int) ≤ (tops (coresOf G) : Int) := by omega
  have room : tops (coresOf G) * 24 ≤ 140737488355328 := by omega
  have hrl : (List.replicate (tops (coresOf G)) z3).length = tops (coresOf G) := by simp
  refine is_fn _ ?_
  unfold run'
  simp only [hpC, hfC, F4_is (show (coresOf G).length ≤ 4096 by omega), hw, Int.toNat_natCast, a1, room, hrl, e1, e2, hpP.1, hpP.2, e3, hw2, e4, hfin, if_true]
end ShellsP
end Go.Proofs.Ythbojpaghbbnnaa.Z
namespace Go.Proofs.Ythbojpaghbbnnaa.Z
open Go Go.RowKit
set_option linter.unusedVariables false
set_option linter.unusedSimpArgs false
/-- How many w above v are neighbours of u and of v. -/
def triAt (G : Gr) (u v : Nat) : Nat := (G.nb u).countP (fun w => decide (v < w) && G.adj v w)
def triTo (G : Gr) : List (Nat × Nat) → Nat
  | [] => 0
  | p :: ps => triAt G p.1 p.2 + triTo G ps
def triOf (G : Gr) : Nat := triTo G G.pairs
theorem triTo_app (G : Gr) : ∀ a b : List (Nat × Nat), triTo G (a ++ b) = triTo G a + triTo G b
  | [], b => by simp [triTo]
  | p :: a, b => by
    rw [List.cons_append, triTo, triTo, triTo_app G a b]
    omega
theorem triAt_le (G : Gr) (u v : Nat) : triAt G u v ≤ G.n := Nat.le_trans List.countP_le_length (G.nb_length_le u)
theorem triTo_le (G : Gr) : ∀ l : List (Nat × Nat), triTo G l ≤ l.length * G.n
  | [] => by simp [triTo]
  | p :: l => by
    have ih := triTo_le G l
    have h := triAt_le G p.1 p.2
    rw [triTo, List.length_cons, Nat.succ_mul]
    omega
/-- What two rising lists have in common above v. -/
def cnt (v : Int) (a b : List Int) : Nat := a.countP (fun w => decide (w > v) && decide (w ∈ b))
theorem cnt_lt {v x y : Int} {a b : List Int} (hb : Srt (y :: b)) (h : x < y) : cnt v (x :: a) (y :: b) = cnt v a (y :: b) := by
  unfold cnt
  rw [List.countP_cons, if_neg]
  · rfl
  · rw [Bool.and_eq_true, decide_eq_true_eq, decide_eq_true_eq]
    rintro ⟨_, hm⟩
    rcases List.mem_cons.1 hm with e | e
    · omega
    · have := (List.pairwise_cons.1 hb).1 x e
      omega
theorem cnt_gt {v x y : Int} {a b : List Int} (ha : Srt (x :: a)) (h : y < x) : cnt v (x :: a) (y :: b) = cnt v (x :: a) b := by
  unfold cnt
  refine List.countP_congr (fun w hw => ?_)
  have hwx : x ≤ w := by
    rcases List.mem_cons.1 hw with e | e
    · omega
    · have := (List.pairwise_cons.1 ha).1 w e
      omega
  have : (w ∈ y :: b) ↔ w ∈ b := by
    rw [List.mem_cons]
    exact ⟨fun q => q.elim (fun e => by omega) id, .inr⟩
  simp only [Bool.and_eq_true, decide_eq_true_eq, this]
theorem cnt_eq {v x : Int} {a b : List Int} (ha : Srt (x :: a)) : cnt v (x :: a) (x :: b) = cnt v a b + if x > v then 1 else 0 := by
  unfold cnt
  rw [List.countP_cons]
  have h1 : a.countP (fun w => decide (w > v) && decide (w ∈ x :: b)) = a.countP (fun w => decide (w > v) && decide (w ∈ b)) := List.countP_congr (fun w hw => by
    have := (List.pairwise_cons.1 ha).1 w hw
    have : (w ∈ x :: b) ↔ w ∈ b := by
      rw [List.mem_cons]
      exact ⟨fun q => q.elim (fun e => by omega) id, .inr⟩
    simp only [Bool.and_eq_true, decide_eq_true_eq, this])
  rw [h1]
  by_cases h : x > v
  · simp [h]
  · simp [h]
namespace TriP
theorem F6_is {g : Option Gr} {t9 : List (Int × Int)} {t10 t11 x v : Int} {n0 : Nat} (hn : n0 ≤ 1099511627776) {a0 b0 : List Int} (ha : Srt a0) (hb : Srt b0) (hl : a0.length ≤ 4096) :
    F6 g (n0 : Int) a0 b0 t9 t10 t11 x v = some ((g, ((n0 + cnt v a0 b0 : Nat) : Int), t9, t10, t11, ()), ()) := by
  have hcl : cnt v a0 b0 ≤ a0.length := List.countP_le_length
  have key := F6_inv (g0 := g) (t9 := t9) (t10 := t10) (t11 := t11) (c0x0 := x) (c0x1 := v)
    (fun n a b => ∃ m : Nat, n = (m : Int) ∧ m + cnt v a b = n0 + cnt v a0 b0 ∧ Srt a ∧ Srt b) (fun _ a b => a.length + b.length)
    (fun z => z = ((g, ((n0 + cnt v a0 b0 : Nat) : Int), t9, t10, t11, ()), ())) (fun n a b hI => by
      obtain ⟨m, rfl, hm, sa, sb⟩ := hI
      have hw : IntKind.wrap .i64 ((m : Int) + 1) = (m : Int) + 1 := wr (by omega) (by omega)
      unfold R6
      refine led_dif (fun q1 => ?_) (fun q1 => led_x ?_)
      · refine led_dif (fun q2 => ?_) (fun q2 => led_x ?_)
        · cases a with
          | nil => simp at q1
          | cons y a =>
            cases b with
            | nil => simp at q2
            | cons w b =>
              have d1 : List.drop (Int.toNat 1) (y :: a) = a := rfl
              have d2 : List.drop (Int.toNat 1) (w :: b) = b := rfl
              have g1 : List.getD (y :: a) (Int.toNat 0) 0 = y := rfl
              have g2 : List.getD (w :: b) (Int.toNat 0) 0 = w := rfl
              have a1 : (0 : Int) < ((y :: a).length : Int) := by rw [List.length_cons]; omega
              have a2 : (0 : Int) < ((w :: b).length : Int) := by rw [List.length_cons]; omega
              have a3 : (1 : Int) ≤ ((y :: a).length : Int) := by rw [List.length_cons]; omega
              have a4 : (1 : Int) ≤ ((w :: b).length : Int) := by rw [List.length_cons]; omega
              have sa2 : Srt a := (List.pairwise_cons.1 sa).2
              have sb2 : Srt b := (List.pairwise_cons.1 sb).2
              simp only [g1, g2, d1, d2, a1, a2, a3, a4, hw, if_true]
              refine led_dif (fun q3 => ?_) (fun q3 => ?_)
              · rw [cnt_lt sb q3] at hm
                exact led_k ⟨_, _, _, rfl, ⟨m, rfl, hm, sa2, sb⟩, by simp only [List.length_cons]; omega⟩
              · refine led_dif (fun q4 => ?_) (fun q4 => ?_)
                · rw [cnt_gt sa q4] at hm
                  exact led_k ⟨_, _, _, rfl, ⟨m, rfl, hm, sa, sb2⟩, by simp only [List.length_cons]; omega⟩
                · obtain rfl : y = w := by omega
                  rw [cnt_eq sa] at hm
                  refine led_dif (fun q5 => ?_) (fun q5 => ?_)
                  · rw [if_pos q5] at hm
                    exact led_k ⟨_, _, _, rfl, ⟨m + 1, by omega, by omega, sa2, sb2⟩, by simp only [List.length_cons]; omega⟩
                  · rw [if_neg q5] at hm
                    exact led_k ⟨_, _, _, rfl, ⟨m, rfl, by omega, sa2, sb2⟩, by simp only [List.length_cons]; omega⟩
        · have e : b = [] := List.length_eq_zero_iff.1 (by omega)
          have e0 : cnt v a b = 0 := by
            rw [e]
            unfold cnt
            rw [List.countP_eq_zero]
            intro w _
            simp
          rw [← hm, e0]
          rfl
      · have e : a = [] := List.length_eq_zero_iff.1 (by omega)
        have e0 : cnt v a b = 0 := by rw [e]; rfl
        rw [← hm, e0]
        rfl) (n0 : Int) a0 b0 ⟨n0, rfl, rfl, ha, hb⟩
  obtain ⟨z, hz, rfl⟩ := key
  exact hz
theorem cnt_is {G : Gr} (hG : G.Ok) (u v : Nat) : cnt (v : Int) (up (G.nb u)) (up (G.nb v)) = triAt G u v := by
  unfold cnt triAt up
  rw [List.countP_map]
  refine List.countP_congr (fun w hw => ?_)
  have : ((w : Int) ∈ (G.nb v).map (fun x : Nat => (x : Int))) ↔ G.adj v w = true := by
    rw [show (G.nb v).map (fun x : Nat => (x : Int)) = up (G.nb v) from rfl, mem_up' hG]
    exact ⟨fun ⟨x, h1, h2⟩ => by
      obtain rfl : w = x := by omega
      exact h2, fun h => ⟨w, rfl, h⟩⟩
  simp only [Function.comp, Bool.and_eq_true, decide_eq_true_eq, this]
  exact and_congr_left' (by omega)
theorem is {G : Gr} (hG : G.Ok) (hn : G.n ≤ 4096) : pre (some G) = true ∧ fn (some G) = ((triOf G : Int), ()) := by
  have hps : G.pairs.length ≤ 16777216 := Nat.le_trans (edges_le G) (sq_le (Nat.le_refl G.n) hn)
  have hul : (upP G.pairs).length = G.pairs.length := by unfold upP; rw [List.length_map]
  have key := F3_inv (g0 := some G) (t9 := upP G.pairs) (t10 := ((upP G.pairs).length : Int)) (fun n t => ∃ j : Nat, t = (j : Int) ∧ j ≤ G.pairs.length ∧ n = (triTo G (G.pairs.take j) : Int)) (fun _ t => G.pairs.length - t.toNat)
    (fun z => z = (((triOf G : Int), ()), ())) (fun n t hI => by
      obtain ⟨j, rfl, hj, rfl⟩ := hI
      unfold R3
      refine led_dif (fun q1 => ?_) (fun q1 => led_x ?_)
      · have hjl : j < G.pairs.length := by omega
        have hw : IntKind.wrap .i64 ((j : Int) + 1) = (j : Int) + 1 := wr (by omega) (by omega)
        have tk := take_snoc (0, 0) G.pairs j hjl
        have hup : (upP G.pairs).getD j ((0 : Int), (0 : Int)) = (((G.pairs.getD j (0, 0)).1 : Int), ((G.pairs.getD j (0, 0)).2 : Int)) := by
          simp [upP, List.getD_eq_getElem?_getD, hjl]
        obtain ⟨p, hp⟩ : ∃ p, p = G.pairs.getD j (0, 0) := ⟨_, rfl⟩
        rw [← hp] at tk hup
        obtain ⟨u, v⟩ := p
        have ht := triTo_le G (G.pairs.take j)
        rw [List.length_take] at ht
        have ht2 : min j G.pairs.length * G.n ≤ 16777216 * 4096 := Nat.mul_le_mul (by omega) hn
        have hf := F6_is (g := some G) (t9 := upP G.pairs) (t10 := ((upP G.pairs).length : Int)) (t11 := (j : Int)) (x := (u : Int)) (v := (v : Int)) (n0 := triTo G (G.pairs.take j)) (by omega) (up_srt G u) (up_srt G v) (by have := up_len_le G u; omega)
        rw [cnt_is hG] at hf
        have a1 : (0 : Int) ≤ (j : Int) := by omega
        have a2 : (j : Int) < ((upP G.pairs).length : Int) := by omega
        have hp1 : ∀ x, Neighbours.pre (some G) x = true := fun _ => rfl
        have hf1 : ∀ x : Nat, Neighbours.fn (some G) (x : Int) = (up (G.nb x), ()) := fun x => by unfold Neighbours.fn; rw [gr_some, nbz_at]
        simp only [Int.toNat_natCast, hup, hp1, hf1, a1, a2, hf, hw, if_true]
        refine led_k ⟨_, _, rfl, ⟨j + 1, by omega, by omega, ?_⟩, by omega⟩
        rw [tk, triTo_app, triTo, triTo]
        rfl
      · obtain rfl : j = G.pairs.length := by omega
        rw [List.take_length]
        rfl) 0 0 ⟨0, rfl, by omega, rfl⟩
  obtain ⟨z, hz, rfl⟩ := key
  have hpP : Pairs.pre (some G) = true ∧ (Pairs.fn (some G)).1 = upP G.pairs := ⟨show (true && decide (G.n ≤ 4096)) = true by rw [decide_eq_true hn]; rfl, rfl⟩
  refine is_fn _ ?_
  unfold run'
  simp only [hpP.1, hpP.2, hz, if_true]
end TriP
theorem has_nat (G : Gr) (u v : Nat) : G.has (u : Int) (v : Int) = G.adj u v := by
  unfold Gr.has
  rw [decide_eq_true (show (0 : Int) ≤ (u : Int) by omega), decide_eq_true (show (0 : Int) ≤ (v : Int) by omega)]
  rfl
end Go.Proofs.Ythbojpaghbbnnaa.Z
namespace Go.Proofs.Ythbojpaghbbnnaa.Z
open Go Go.RowKit
set_option linter.unusedVariables false
set_option linter.unusedSimpArgs false
abbrev fm : Ieee.Format := Go.FloatKind.format Go.FloatKind.f64
theorem fm_frac : fm.fractionBits = 52 := rfl
theorem fm_binade : fm.binade = 4503599627370496 := by decide
theorem fm_least : fm.leastPlace = -1074 := by decide
theorem fm_inf : fm.infRung = 9218868437227405312 := by decide
theorem fm_sign : fm.signWeight = 9223372036854775808 := by decide
theorem log_lt {n : Nat} (h0 : 0 < n) (h : n < 9007199254740992) : n.log2 < 53 := by
  have e : (2 : Nat) ^ 53 = 9007199254740992 := by decide
  exact (Nat.log2_lt (by omega)).2 (by omega)
/-- A whole number's significand. -/
theorem sig_is {n : Nat} (h0 : 0 < n) (h : n < 9007199254740992) : 4503599627370496 ≤ n * 2 ^ (52 - n.log2) ∧ n * 2 ^ (52 - n.log2) < 9007199254740992 := by
  have hl := log_lt h0 h
  have h1 := Nat.log2_self_le (show n ≠ 0 by omega)
  have h2 := Nat.lt_log2_self (n := n)
  have e : 2 ^ n.log2 * 2 ^ (52 - n.log2) = 4503599627370496 := by
    rw [← Nat.pow_add, show n.log2 + (52 - n.log2) = 52 by omega]
  have hp : 0 < 2 ^ (52 - n.log2) := Nat.pow_pos (by decide)
  have e2 : 2 ^ (n.log2 + 1) * 2 ^ (52 - n.log2) = 9007199254740992 := by
    rw [Nat.pow_succ, Nat.mul_right_comm, e]
  refine ⟨?_, ?_⟩
  · rw [← e]; exact Nat.mul_le_mul_right _ h1
  · rw [← e2]; exact Nat.mul_lt_mul_of_pos_right h2 hp
theorem near_is {n : Nat} (h0 : 0 < n) (h : n < 9007199254740992) : Go.FloatKind.nearest Go.FloatKind.f64 (n : Int) = (n.log2 + 1022) * 4503599627370496 + n * 2 ^ (52 - n.log2) := by
  have hl := log_lt h0 h
  have hs := sig_is h0 h
  show fm.nearest (decide ((n : Int) < 0)) (Int.natAbs (n : Int)) 0 = _
  rw [decide_eq_false (by omega), Int.natAbs_natCast]
  unfold Ieee.Format.nearest
  rw [if_neg (by omega)]
  have e1 : max ((0 : Int) + (n.log2 : Int) - (fm.fractionBits : Int)) fm.leastPlace = (n.log2 : Int) - 52 := by
    rw [fm_least, fm_frac]
    omega
  have e2 : ((0 : Int) - ((n.log2 : Int) - 52)).toNat = 52 - n.log2 := by omega
  have e3 : (((n.log2 : Int) - 52) - 0).toNat = 0 := by omega
  have e4 : (((n.log2 : Int) - 52) - fm.leastPlace).toNat = n.log2 + 1022 := by rw [fm_least]; omega
  simp only [e1, e2, e3, e4]
  have e5 : Ieee.Toward.even.cut false (n <<< (52 - n.log2)) 0 = n * 2 ^ (52 - n.log2) := by
    rw [Nat.shiftLeft_eq]
    unfold Ieee.Toward.cut
    simp only [Nat.zero_min, Nat.shiftLeft_zero, Nat.div_one, Nat.mod_one]
    rfl
  rw [e5, fm_binade, fm_inf]
  unfold Ieee.Format.word
  rw [if_neg (by simp)]
  omega
theorem read_near {n : Nat} (h0 : 0 < n) (h : n < 9007199254740992) : fm.read (Go.FloatKind.nearest Go.FloatKind.f64 (n : Int)) = .number false (n * 2 ^ (52 - n.log2)) ((n.log2 : Int) - 52) := by
  have hl := log_lt h0 h
  have hs := sig_is h0 h
  rw [near_is h0 h]
  obtain ⟨m, hm⟩ : ∃ m, m = n * 2 ^ (52 - n.log2) := ⟨_, rfl⟩
  rw [← hm] at hs ⊢
  obtain ⟨L, hL⟩ : ∃ L, L = n.log2 := ⟨_, rfl⟩
  rw [← hL] at hl ⊢
  unfold Ieee.Format.read
  have e1 : ((L + 1022) * 4503599627370496 + m) / fm.signWeight % 2 = 0 := by rw [fm_sign]; omega
  have e2 : ((L + 1022) * 4503599627370496 + m) % fm.signWeight = (L + 1022) * 4503599627370496 + m := by rw [fm_sign]; omega
  have e3 : ¬ (L + 1022) * 4503599627370496 + m < fm.binade := by rw [fm_binade]; omega
  have e4 : (L + 1022) * 4503599627370496 + m < fm.infRung := by rw [fm_inf]; omega
  have e5 : ((L + 1022) * 4503599627370496 + m) % fm.binade = m - 4503599627370496 := by rw [fm_binade]; omega
  have e6 : ((L + 1022) * 4503599627370496 + m) / fm.binade = L + 1023 := by rw [fm_binade]; omega
  simp only [e1, e2, e5, e6]
  rw [if_neg e3, if_pos e4, fm_binade, fm_least]
  have e7 : 4503599627370496 + (m - 4503599627370496) = m := by omega
  have e8 : (-1074 : Int) + ((L + 1023 - 1 : Nat) : Int) = (L : Int) - 52 := by omega
  rw [e7, e8]
  rfl
theorem read_zero : fm.read (Go.FloatKind.nearest Go.FloatKind.f64 ((0 : Nat) : Int)) = .number false 0 (-1074) := by decide
/-- The quotient of two whole numbers, as a float. -/
def quot (e c : Nat) : Nat := (Ieee.Format.div fm (Go.FloatKind.nearest Go.FloatKind.f64 (e : Int)) (Go.FloatKind.nearest Go.FloatKind.f64 (c : Int))).getD 0
theorem quot_is {e c : Nat} (he : e < 9007199254740992) (hc : 0 < c) (hc2 : c < 9007199254740992) : Ieee.Format.div fm (Go.FloatKind.nearest Go.FloatKind.f64 (e : Int)) (Go.FloatKind.nearest Go.FloatKind.f64 (c : Int)) = some (quot e c) ∧ ∃ (s : Bool) (m : Nat) (p : Int), quot e c = fm.nearest s m p := by
  have h : ∃ q, Ieee.Format.div fm (Go.FloatKind.nearest Go.FloatKind.f64 (e : Int)) (Go.FloatKind.nearest Go.FloatKind.f64 (c : Int)) = some q ∧ ∃ (s : Bool) (m : Nat) (p : Int), q = fm.nearest s m p := by
    obtain ⟨s, m, i, hr⟩ : ∃ s m i, fm.read (Go.FloatKind.nearest Go.FloatKind.f64 (e : Int)) = .number s m i := by
      rcases Nat.eq_zero_or_pos e with rfl | h0
      · exact ⟨_, _, _, read_zero⟩
      · exact ⟨_, _, _, read_near h0 he⟩
    have hs := sig_is hc hc2
    unfold Ieee.Format.div
    rw [hr, read_near hc hc2]
    unfold Ieee.Datum.quotient
    simp only
    rw [if_neg (by omega)]
    exact ⟨_, rfl, _, _, _, rfl⟩
  obtain ⟨q, h1, h2⟩ := h
  have e1 : quot e c = q := by unfold quot; rw [h1]; rfl
  rw [e1]
  exact ⟨h1, h2⟩
/-- A density: 0 of nobody. -/
def dens (e c : Nat) : Nat := if c = 0 then 0 else quot e c
noncomputable def densAt (G : Gr) (k : Int) : Nat := dens (insideE G (coreAt (coresOf G) k)) ((coreAt (coresOf G) k).count true)
theorem insideE_le {G : Gr} (hn : G.n ≤ 4096) (keep : List Bool) : insideE G keep ≤ 16777216 := by
  unfold insideE
  exact Nat.le_trans List.countP_le_length (Nat.le_trans (edges_le G) (sq_le (Nat.le_refl G.n) hn))
theorem core_len {G : Gr} (hG : G.Ok) (hn : G.n ≤ 4096) (k : Int) : (coreAt (coresOf G) k).length = G.n := by
  unfold coreAt
  rw [List.length_map]
  exact coresOf_len hG hn
theorem core_count (c : List Int) (k : Int) : (coreAt c k).count true = c.countP (fun x => decide (x ≥ k)) := by
  unfold coreAt List.count
  rw [List.countP_map]
  exact List.countP_congr (fun x _ => by simp [Function.comp])
theorem countP_le' {G : Gr} (hG : G.Ok) (hn : G.n ≤ 4096) (k : Int) : (coreAt (coresOf G) k).count true ≤ 4096 := by
  have := List.count_le_length (a := true) (l := coreAt (coresOf G) k)
  rw [core_len hG hn] at this
  omega
theorem count_range (k j : Int) (hk : k ≤ j) : ∀ c : List Int, c.countP (fun x => decide (k ≤ x) && decide (x < j)) + c.count j = c.countP (fun x => decide (k ≤ x) && decide (x < j + 1))
  | [] => rfl
  | x :: c => by
    have ih := count_range k j hk c
    simp only [List.countP_cons, List.count_cons, Bool.and_eq_true, decide_eq_true_eq, beq_iff_eq]
    split <;> split <;> split <;> omega
theorem densP.is {G : Gr} (hG : G.Ok) (hn : G.n ≤ 4096) {k : Nat} (hk : k < tops (coresOf G)) : densP.pre (shellsOf G) (k : Int) = true ∧ densP.fn (shellsOf G) (k : Int) = (densAt G (k : Int), ()) := by
  have hl := coresOf_len hG hn
  obtain ⟨m1, m2, m3, m4, m5⟩ := max_cores hG hn
  have hT2 : tops (coresOf G) ≤ 4096 ∧ 0 < G.n ∧ ((tops (coresOf G) : Nat) : Int) = maxTo 0 (coresOf G) + 1 := by
    unfold tops at hk ⊢
    by_cases h : G.n = 0
    · rw [m4 h] at hk
      have : ((-1 : Int) + 1).toNat = 0 := rfl
      omega
    · rw [m3 (by omega)]; omega
  have hsl : (shellsOf G).length = tops (coresOf G) := by unfold shellsOf shellsTo; rw [List.length_map, List.length_range]
  have hE := insideE_le hn (coreAt (coresOf G) (k : Int))
  have hC := countP_le' hG hn (k : Int)
  have hlt : ∀ x ∈ coresOf G, x < (tops (coresOf G) : Int) := fun x hx => by
    have := (maxTo_ge (coresOf G) 0).2 x hx
    omega
  have hpos : (coreAt (coresOf G) (k : Int)).count true ≠ 0 := by
    rw [core_count, Ne, List.countP_eq_zero]
    intro h
    rcases maxTo_mem (coresOf G) 0 with e | e
    · have m0 := mem_getD 0 (coresOf G) 0 (by omega)
      have := h _ m0
      obtain ⟨q, h1, h2, h3⟩ := coresOf_at hG hn (v := 0) (by omega)
      rw [decide_eq_true_eq] at this
      omega
    · have := h _ e
      rw [decide_eq_true_eq] at this
      omega
  have hdl : ((shellsOf G).drop k).length = tops (coresOf G) - k := by rw [List.length_drop, hsl]
  have hdg : ∀ j, k + j < tops (coresOf G) → ((shellsOf G).drop k).getD j ShellsP.z3 = shellAt G (coresOf G) (k + j) := fun j hj => by
    rw [List.getD_eq_getElem?_getD, List.getElem?_drop, ← List.getD_eq_getElem?_getD]
    unfold shellsOf shellsTo
    exact range_map_at ShellsP.z3 _ hj
  have key := densP.F3_inv (l0 := shellsOf G) (k1 := (k : Int)) (t10 := (shellsOf G).drop k) (t11 := (((shellsOf G).drop k).length : Int))
    (fun n t => ∃ j : Nat, t = (j : Int) ∧ k + j ≤ tops (coresOf G) ∧ n = ((coresOf G).countP (fun x => decide ((k : Int) ≤ x) && decide (x < (k : Int) + (j : Int))) : Int)) (fun _ t => tops (coresOf G) - t.toNat)
    (fun z => z = ((shellsOf G, (k : Int), ((coreAt (coresOf G) (k : Int)).count true : Int), ()), ())) (fun n t hI => by
      obtain ⟨j, rfl, hj, rfl⟩ := hI
      unfold densP.R3
      refine led_dif (fun q1 => ?_) (fun q1 => led_x ?_)
      · have hjl : k + j < tops (coresOf G) := by omega
        have hw : IntKind.wrap .i64 ((j : Int) + 1) = (j : Int) + 1 := wr (by omega) (by omega)
        have hx : (List.getD ((shellsOf G).drop k) j ((0 : Int), (0 : Int), (0 : Int))).2.1 = ((coresOf G).count ((k : Int) + (j : Int)) : Int) := by
          rw [show List.getD ((shellsOf G).drop k) j ((0 : Int), (0 : Int), (0 : Int)) = shellAt G (coresOf G) (k + j) from hdg j hjl]
          show ((coresOf G).count ((k + j : Nat) : Int) : Int) = _
          rw [show ((k + j : Nat) : Int) = (k : Int) + (j : Int) by omega]
        have cr := count_range (k : Int) ((k : Int) + (j : Int)) (by omega) (coresOf G)
        have cl := List.countP_le_length (p := fun x => decide ((k : Int) ≤ x) && decide (x < (k : Int) + (j : Int) + 1)) (l := coresOf G)
        have hw2 : IntKind.wrap .i64 (((coresOf G).countP (fun x => decide ((k : Int) ≤ x) && decide (x < (k : Int) + (j : Int))) : Int) + ((coresOf G).count ((k : Int) + (j : Int)) : Int)) = ((coresOf G).countP (fun x => decide ((k : Int) ≤ x) && decide (x < (k : Int) + (j : Int) + 1)) : Int) := by
          rw [wr (by omega) (by omega)]; omega
        have a1 : (0 : Int) ≤ (j : Int) := by omega
        simp only [Int.toNat_natCast, hx, hw, hw2, a1, q1, if_true]
        refine led_k ⟨_, _, rfl, ⟨j + 1, by omega, by omega, ?_⟩, by omega⟩
        rw [show (k : Int) + ((j + 1 : Nat) : Int) = (k : Int) + (j : Int) + 1 by omega]
      · have e1 : k + j = tops (coresOf G) := by omega
        rw [core_count, List.countP_congr (fun x hx => by
          have := hlt x hx
          rw [show (k : Int) + (j : Int) = (tops (coresOf G) : Int) by omega, decide_eq_true this, Bool.and_true])]) 0 0 ⟨0, rfl, by omega, by
      have : (coresOf G).countP (fun x => decide ((k : Int) ≤ x) && decide (x < (k : Int) + ((0 : Nat) : Int))) = 0 := by
        rw [List.countP_eq_zero]
        intro x _
        rw [Bool.and_eq_true, decide_eq_true_eq, decide_eq_true_eq]
        omega
      rw [this]
      rfl⟩
  obtain ⟨z, hz, rfl⟩ := key
  have a1 : (0 : Int) ≤ (k : Int) := by omega
  have a2 : (k : Int) ≤ ((shellsOf G).length : Int) := by omega
  have a3 : (k : Int) < ((shellsOf G).length : Int) := by omega
  have hx : (List.getD (shellsOf G) k ((0 : Int), (0 : Int), (0 : Int))).2.2 = (insideE G (coreAt (coresOf G) (k : Int)) : Int) := by
    unfold shellsOf shellsTo
    rw [range_map_at _ _ hk]
    rfl
  refine densP.is_fn _ _ ?_
  unfold densP.run' densAt dens
  simp only [Int.toNat_natCast, hz, a1, a2, a3, hx, if_true]
  rw [if_neg hpos, (quot_is (show insideE G (coreAt (coresOf G) (k : Int)) < 9007199254740992 by omega) (show 0 < (coreAt (coresOf G) (k : Int)).count true by omega) (by omega)).1]
/-- The densest among the first ones. -/
def ordG (x y : Nat) : Bool := (Ieee.Format.order fm x y == Option.some Ordering.gt || Ieee.Format.order fm x y == Option.some Ordering.eq)
def dstTo (f : Nat → Nat) : Nat → Int × Nat
  | 0 => (0, 0)
  | j + 1 => if ordG (f j) (dstTo f j).2 = true then ((j : Int), f j) else dstTo f j
noncomputable def thickOf (G : Gr) : Int × Nat := dstTo (fun k => densAt G (k : Int)) (tops (coresOf G))
theorem DstP.is {G : Gr} (hG : G.Ok) (hn : G.n ≤ 4096) : DstP.pre (some G) = true ∧ DstP.fn (some G) = ((thickOf G).1, (thickOf G).2, ()) := by
  have hs := ShellsP.is hG hn
  obtain ⟨m1, m2, m3, m4, m5⟩ := max_cores hG hn
  have hT2 : tops (coresOf G) ≤ 4096 := by
    unfold tops
    by_cases h : G.n = 0
    · rw [m4 h]; decide
    · rw [m3 (by omega)]; omega
  have hsl : (shellsOf G).length = tops (coresOf G) := by unfold shellsOf shellsTo; rw [List.length_map, List.length_range]
  have key := DstP.F4_inv (t12 := ((shellsOf G).length : Int)) (r0 := shellsOf G)
    (fun b m t => ∃ j : Nat, t = (j : Int) ∧ j ≤ tops (coresOf G) ∧ b = (dstTo (fun k => densAt G (k : Int)) j).1 ∧ m = (dstTo (fun k => densAt G (k : Int)) j).2) (fun _ _ t => tops (coresOf G) - t.toNat)
    (fun z => z = (((thickOf G).1, (thickOf G).2, ()), ())) (fun b m t hI => by
      obtain ⟨j, rfl, hj, rfl, rfl⟩ := hI
      unfold DstP.R4
      refine led_dif (fun q1 => ?_) (fun q1 => led_x ?_)
      · have hjl : j < tops (coresOf G) := by omega
        have hw : IntKind.wrap .i64 ((j : Int) + 1) = (j : Int) + 1 := wr (by omega) (by omega)
        have hp := densP.is hG hn hjl
        have e : dstTo (fun k => densAt G (k : Int)) (j + 1) = if ordG (densAt G (j : Int)) (dstTo (fun k => densAt G (k : Int)) j).2 = true then ((j : Int), densAt G (j : Int)) else dstTo (fun k => densAt G (k : Int)) j := rfl
        simp only [hp.1, hp.2, hw, if_true]
        by_cases h : ordG (densAt G (j : Int)) (dstTo (fun k => densAt G (k : Int)) j).2 = true
        · rw [if_pos h] at e
          unfold ordG at h
          simp only [h, if_true]
          exact led_k ⟨_, _, _, rfl, ⟨j + 1, by omega, by omega, by rw [e], by rw [e]⟩, by omega⟩
        · rw [if_neg h] at e
          unfold ordG at h
          simp only [h, if_false]
          exact led_k ⟨_, _, _, rfl, ⟨j + 1, by omega, by omega, by rw [e], by rw [e]⟩, by omega⟩
      · obtain rfl : j = tops (coresOf G) := by omega
        rfl) 0 0 0 ⟨0, rfl, by omega, rfl, rfl⟩
  obtain ⟨z, hz, rfl⟩ := key
  refine DstP.is_fn _ ?_
  unfold DstP.run'
  rw [hs.1, hs.2]
  simp only [hz, if_true]
end Go.Proofs.Ythbojpaghbbnnaa.Z
namespace Go.Proofs.Ythbojpaghbbnnaa.Z
open Go Go.RowKit
set_option linter.unusedVariables false
set_option linter.unusedSimpArgs false
namespace PeelEdge
abbrev ps : List PM := [.val I64, .val (.list Pr), .val I64, .val I64]
abbrev rs : List PM := [.val .bool]
noncomputable abbrev code : Code := (Go.Proofs.Try.f28.body.getD .skip)
abbrev s17 : Shape := ⟨[.un, .un, .un, .un, .un, .un, .un, .un, .un, .un, .un, .un, .un, .un, .row 0, .row 1, .v I64, .un, .un, .un, .un, .un, .un, .un, .un, .un, .un, .un, .un, .un, .un, .un, .un, .un, .un, .un, .un, .un, .un, .un, .un, .un, .un, .un, .un, .un, .un, .un, .un, .un, .un, .un, .un, .un, .un, .un, .un, .un, .un, .un, .un, .un, .un, .un, .un, .un, .un, .un, .un, .un, .un, .un, .un, .un, .un, .un, .un, .un, .un, .un, .un, .un, .un, .un, .un, .un, .un, .un, .un, .un, .un, .un, .un, .un, .un, .un, .un, .un, .un, .un, .un, .un, .un, .un, .un, .un, .un, .un, .un, .un, .un, .un, .un, .un, .un, .un], [.row (3 : Go.TypeId) I64, .row (3 : Go.TypeId) I64]⟩
abbrev x17 : List Way := [⟨.rt, ⟨[(8, none)]⟩, ⟨[.un, .un, .un, .un, .un, .un, .un, .un, .v .bool, .un, .un, .un, .un, .un, .un, .un, .un, .un, .un, .un, .un, .un, .un, .un, .un, .un, .un, .un, .un, .un, .un, .un, .un, .un, .un, .un, .un, .un, .un, .un, .un, .un, .un, .un, .un, .un, .un, .un, .un, .un, .un, .un, .un, .un, .un, .un, .un, .un, .un, .un, .un, .un, .un, .un, .un, .un, .un, .un, .un, .un, .un, .un, .un, .un, .un, .un, .un, .un, .un, .un, .un, .un, .un, .un, .un, .un, .un, .un, .un, .un, .un, .un, .un, .un, .un, .un, .un, .un, .un, .un, .un, .un, .un, .un, .un, .un, .un, .un, .un, .un, .un, .un, .un, .un, .un, .un], []⟩⟩, ⟨(.ex 0), ⟨[]⟩, ⟨[.un, .un, .un, .un, .un, .un, .un, .un, .un, .un, .un, .un, .un, .un, .un, .un, .un, .un, .un, .un, .un, .un, .un, .un, .un, .un, .un, .un, .un, .un, .un, .un, .un, .un, .un, .un, .un, .un, .un, .un, .un, .un, .un, .un, .un, .un, .un, .un, .un, .un, .un, .un, .un, .un, .un, .un, .un, .un, .un, .un, .un, .un, .un, .un, .un, .un, .un, .un, .un, .un, .un, .un, .un, .un, .un, .un, .un, .un, .un, .un, .un, .un, .un, .un, .un, .un, .un, .un, .un, .un, .un, .un, .un, .un, .un, .un, .un, .un, .un, .un, .un, .un, .un, .un, .un, .un, .un, .un, .un, .un, .un, .un, .un, .un, .un, .un], []⟩⟩]
abbrev V17 : Type := (Int × Unit) × ((List Int) × (List Int) × Unit)
abbrev X17 : Type := ((Bool × Unit) × (Unit)) ⊕ ((Unit) × (Unit))
noncomputable def R17 {R : Type} (i16 : Int) (r0 : List Int) (r1 : List Int) (k : V17 → Option R) (kx : X17 → Option R) : Option R := (if Decidable.decide (i16 < (↑(List.length r0) : Int)) = Bool.true then (if (0 : Int) ≤ i16 then (if i16 < (↑(List.length r1) : Int) then (if (0 : Int) ≤ i16 then (if i16 < (↑(List.length r0) : Int) then (if Decidable.decide (List.getD r1 (Int.toNat i16) (0 : Int) < List.getD r0 (Int.toNat i16) (0 : Int)) = Bool.false then (if (0 : Int) ≤ i16 then (if i16 < (↑(List.length r1) : Int) then (if (0 : Int) ≤ i16 then (if i16 < (↑(List.length r0) : Int) then (if Decidable.decide (List.getD r1 (Int.toNat i16) (0 : Int) > IntKind.wrap .i64 (List.getD r0 (Int.toNat i16) (0 : Int) + (1 : Int))) = Bool.true then kx (Sum.inl <| ((Bool.false, ()), (())))
 else k ((IntKind.wrap .i64 (i16 + (1 : Int)), ()), (r0, r1, ())))
 else none)
 else none)
 else none)
 else none)
 else kx (Sum.inl <| ((Bool.false, ()), (()))))
 else none)
 else none)
 else none)
 else none)
 else kx (Sum.inr <| ((()), (()))))
noncomputable def rd17 : Rd (VO s17) (Xs x17) := fun v k kx => match v with
  | ((i16, _), (r0, r1, _)) => R17 i16 r0 r1 k kx
noncomputable def F17 (i16 : Int) (r0 : List Int) (r1 : List Int) : Option X17 := finOf rd17 ((i16, ()), (r0, r1, ()))
theorem F17_inv {r0 : List Int} {r1 : List Int} (I : Int → Prop) (μ : Int → Nat) (Q : X17 → Prop) (h : ∀ (i16 : Int), I i16 → Led (fun (R : Type) (k : V17 → Option R) (kx : X17 → Option R) => R17 i16 r0 r1 k kx) (fun v => ∃ (i16' : Int), v = ((i16', ()), (r0, r1, ())) ∧ I i16' ∧ μ i16' < μ i16) Q) : ∀ (i16 : Int), I i16 → ∃ z, F17 i16 r0 r1 = some z ∧ Q z := fun i16 hi => by
  refine finOf_inv (V := V17) (X := X17) (rd := rd17) (fun v => ∃ (i16' : Int), v = ((i16', ()), (r0, r1, ())) ∧ I i16') (fun v => match v with
    | ((i16, _), (r0, r1, _)) => μ i16) Q (fun v hv => ?_) ((i16, ()), (r0, r1, ())) ⟨i16, rfl, hi⟩
  obtain ⟨i16, rfl, hi⟩ := hv
  refine led_mono (h i16 hi) ?_ (fun _ q => q)
  rintro v ⟨i16', rfl, h1, h2⟩
  exact ⟨⟨i16', rfl, h1⟩, h2⟩
noncomputable def L17 : Lp := ⟨17, ⟨[(14, none), (15, none), (16, none)]⟩, s17, x17, fun v => match v with
  | ((i16, _), (r0, r1, _)) => F17 i16 r0 r1⟩
theorem ends17 : Ends L17 rd17 := ends_fin (fun v => by
  obtain ⟨⟨i16, _⟩, ⟨r0, r1, _⟩⟩ := v
  rfl)
noncomputable def env : Env := mkEnv tab6 [(43, Changed.sig), (80, first6.sig), (81, made6.sig), (82, Cores.sig), (93, N.sig), (101, num6.sig)] 0 [(7, [0, 1, 4, 7, 2, 3, 5, 6, 8, 9, 10]), (8, [0, 1, 4, 7, 2, 3, 5, 6, 8, 9, 10]), (19, [0, 1, 2, 3, 4, 5, 6, 7, 8, 9, 10, 11, 12, 13, 14, 15, 16, 17, 18, 19, 20])] [L17]
theorem round17 : RoundIs env (sub [true, true, true, true, true, true, true, true, true, true, true, true, false, true, false, false] code) L17 rd17 := fun R v k kx => by kernel_rfl
abbrev D : Type := (Bool × Unit)
noncomputable def run' (n0 : Int) (l1 : (List (Int × Int))) (u2 : Int) (v3 : Int) : Option D := (if first6.pre = Bool.true then (if made6.pre n0 l1 = Bool.true then (if (!first6.fn.1) = Bool.false then (if Option.isNone (made6.fn n0 l1).1 = Bool.true then some (Bool.false, ())
 else (if N.pre (made6.fn n0 l1).1 = Bool.true then (if ((N.fn (made6.fn n0 l1).1).1 == (0 : Int)) = Bool.true then (if Cores.pre (made6.fn n0 l1).1 = Bool.true then some ((↑(List.length (Cores.fn (made6.fn n0 l1).1).1) : Int) == (0 : Int), ())
 else none)
 else (if N.pre (made6.fn n0 l1).1 = Bool.true then (if (N.fn (made6.fn n0 l1).1).1 = (0 : Int) then none
 else (if N.pre (made6.fn n0 l1).1 = Bool.true then (if N.pre (made6.fn n0 l1).1 = Bool.true then (if (N.fn (made6.fn n0 l1).1).1 = (0 : Int) then none
 else (if N.pre (made6.fn n0 l1).1 = Bool.true then (if (N.fn (made6.fn n0 l1).1).1 = (0 : Int) then none
 else (if N.pre (made6.fn n0 l1).1 = Bool.true then (if N.pre (made6.fn n0 l1).1 = Bool.true then (if (N.fn (made6.fn n0 l1).1).1 = (0 : Int) then none
 else (if Changed.pre (made6.fn n0 l1).1 [(Int.tmod (IntKind.wrap .i64 (Int.tmod u2 (N.fn (made6.fn n0 l1).1).1 + (N.fn (made6.fn n0 l1).1).1)) (N.fn (made6.fn n0 l1).1).1, Int.tmod (IntKind.wrap .i64 (Int.tmod v3 (N.fn (made6.fn n0 l1).1).1 + (N.fn (made6.fn n0 l1).1).1)) (N.fn (made6.fn n0 l1).1).1, Bool.false)] = Bool.true then (if num6.pre (Changed.fn (made6.fn n0 l1).1 [(Int.tmod (IntKind.wrap .i64 (Int.tmod u2 (N.fn (made6.fn n0 l1).1).1 + (N.fn (made6.fn n0 l1).1).1)) (N.fn (made6.fn n0 l1).1).1, Int.tmod (IntKind.wrap .i64 (Int.tmod v3 (N.fn (made6.fn n0 l1).1).1 + (N.fn (made6.fn n0 l1).1).1)) (N.fn (made6.fn n0 l1).1).1, Bool.false)]).2.1 = Bool.true then (if ((num6.fn (Changed.fn (made6.fn n0 l1).1 [(Int.tmod (IntKind.wrap .i64 (Int.tmod u2 (N.fn (made6.fn n0 l1).1).1 + (N.fn (made6.fn n0 l1).1).1)) (N.fn (made6.fn n0 l1).1).1, Int.tmod (IntKind.wrap .i64 (Int.tmod v3 (N.fn (made6.fn n0 l1).1).1 + (N.fn (made6.fn n0 l1).1).1)) (N.fn (made6.fn n0 l1).1).1, Bool.false)]).2.1).1 != (0 : Int)) = Bool.false then (if Option.isNone (Changed.fn (made6.fn n0 l1).1 [(Int.tmod (IntKind.wrap .i64 (Int.tmod u2 (N.fn (made6.fn n0 l1).1).1 + (N.fn (made6.fn n0 l1).1).1)) (N.fn (made6.fn n0 l1).1).1, Int.tmod (IntKind.wrap .i64 (Int.tmod v3 (N.fn (made6.fn n0 l1).1).1 + (N.fn (made6.fn n0 l1).1).1)) (N.fn (made6.fn n0 l1).1).1, Bool.false)]).1 = Bool.true then some (Bool.false, ())
 else (if Cores.pre (made6.fn n0 l1).1 = Bool.true then (if Cores.pre (Changed.fn (made6.fn n0 l1).1 [(Int.tmod (IntKind.wrap .i64 (Int.tmod u2 (N.fn (made6.fn n0 l1).1).1 + (N.fn (made6.fn n0 l1).1).1)) (N.fn (made6.fn n0 l1).1).1, Int.tmod (IntKind.wrap .i64 (Int.tmod v3 (N.fn (made6.fn n0 l1).1).1 + (N.fn (made6.fn n0 l1).1).1)) (N.fn (made6.fn n0 l1).1).1, Bool.false)]).1 = Bool.true then (if N.pre (made6.fn n0 l1).1 = Bool.true then (if ((↑(List.length (Cores.fn (made6.fn n0 l1).1).1) : Int) != (N.fn (made6.fn n0 l1).1).1) = Bool.false then (if ((↑(List.length (Cores.fn (Changed.fn (made6.fn n0 l1).1 [(Int.tmod (IntKind.wrap .i64 (Int.tmod u2 (N.fn (made6.fn n0 l1).1).1 + (N.fn (made6.fn n0 l1).1).1)) (N.fn (made6.fn n0 l1).1).1, Int.tmod (IntKind.wrap .i64 (Int.tmod v3 (N.fn (made6.fn n0 l1).1).1 + (N.fn (made6.fn n0 l1).1).1)) (N.fn (made6.fn n0 l1).1).1, Bool.false)]).1).1) : Int) != (↑(List.length (Cores.fn (made6.fn n0 l1).1).1) : Int)) = Bool.true then some (Bool.false, ())
 else (match F17 ((0 : Int)) ((Cores.fn (made6.fn n0 l1).1).1) ((Cores.fn (Changed.fn (made6.fn n0 l1).1 [(Int.tmod (IntKind.wrap .i64 (Int.tmod u2 (N.fn (made6.fn n0 l1).1).1 + (N.fn (made6.fn n0 l1).1).1)) (N.fn (made6.fn n0 l1).1).1, Int.tmod (IntKind.wrap .i64 (Int.tmod v3 (N.fn (made6.fn n0 l1).1).1 + (N.fn (made6.fn n0 l1).1).1)) (N.fn (made6.fn n0 l1).1).1, Bool.false)]).1).1) with
  | some (Sum.inl <| ((t8_1, _), _)) => some (t8_1, ())
  | some (Sum.inr <| (_, _)) => some (Bool.true, ())
  | none => none))
 else some (Bool.false, ()))
 else none)
 else none)
 else none))
 else some (Bool.false, ()))
 else none)
 else none))
 else none)
 else none))
 else none))
 else none)
 else none))
 else none))
 else none))
 else some (Bool.false, ()))
 else none)
 else none)
noncomputable def run (d : Ds (List.map PM.ty ps)) : Option (Ds (muts ps ++ List.map PM.ty rs)) := match d with
  | (n0, l1, u2, v3, _) => run' n0 l1 u2 v3
theorem run_is : ∀ d, runF env 116 code [8] ps rs d = run d := fun d => by kernel_rfl
theorem loops : LoopsOk env code := loopsOk_of (l := [[true, true, true, true, true, true, true, true, true, true, true, true, false, true, false, false]]) (by kernel_rfl) (fun p hp => by
  simp only [List.mem_cons, List.not_mem_nil, or_false] at hp
  rcases hp with rfl
  · exact loopOk_lp (L := L17) (x := sub [true, true, true, true, true, true, true, true, true, true, true, true, false, true, false, false] code) (by kernel_rfl) (by simp [L17]) round17 ends17
  )
noncomputable def pre (n0 : Int) (l1 : (List (Int × Int))) (u2 : Int) (v3 : Int) : Bool := (run' n0 l1 u2 v3).isSome
noncomputable def fn (n0 : Int) (l1 : (List (Int × Int))) (u2 : Int) (v3 : Int) : D := match run' n0 l1 u2 v3 with
  | some x => x
  | none => default
noncomputable def sig : Sig := ⟨ps, rs, fun d => match d with
  | (n0, l1, u2, v3, _) => pre n0 l1 u2 v3, fun d => match d with
  | (n0, l1, u2, v3, _) => fn n0 l1 u2 v3, false⟩
theorem run_fn (n0 : Int) (l1 : (List (Int × Int))) (u2 : Int) (v3 : Int) (h : pre n0 l1 u2 v3 = true) : run' n0 l1 u2 v3 = some (fn n0 l1 u2 v3) := by
  unfold pre at h
  unfold fn
  cases e : run' n0 l1 u2 v3 with
  | some x => rfl
  | none => rw [e] at h; cases h
theorem is_fn (n0 : Int) (l1 : (List (Int × Int))) (u2 : Int) (v3 : Int) {x : D} (h : run' n0 l1 u2 v3 = some x) : pre n0 l1 u2 v3 = true ∧ fn n0 l1 u2 v3 = x := by
  unfold pre fn
  rw [h]
  exact ⟨rfl, rfl⟩
theorem sound {ρ : Obs} (hE : EnvOk Go.Proofs.Try.prog ρ env) : Sound Go.Proofs.Try.prog ρ 28 sig := sound_of (fn := Go.Proofs.Try.f28) (c := code) (res := [8]) hE (by kernel_rfl) (by kernel_rfl) (by kernel_rfl) (by kernel_rfl) (by kernel_rfl) loops rfl (show 4 ≤ 116 by decide) (fun d hd => (run_is d).trans (by
  obtain ⟨n0, l1, u2, v3, _⟩ := d
  exact run_fn n0 l1 u2 v3 hd))
theorem enters : Enters Go.Proofs.Try.prog 28 := enters_of (fn := Go.Proofs.Try.f28) (by kernel_rfl) (by kernel_rfl) (by kernel_rfl)
theorem ok {ρ : Obs} (h : ∀ p ∈ ([(43, Changed.sig), (80, first6.sig), (81, made6.sig), (82, Cores.sig), (93, N.sig), (101, num6.sig)] : List (FuncId × Sig)), Enters Go.Proofs.Try.prog p.1 ∧ Sound Go.Proofs.Try.prog ρ p.1 p.2) : Enters Go.Proofs.Try.prog 28 ∧ Sound Go.Proofs.Try.prog ρ 28 sig := ⟨enters, sound (envOk_of tab6Ok h)⟩
theorem okR : Enters Go.Proofs.Try.prog 28 ∧ Sound Go.Proofs.Try.prog rho 28 sig := ok (fun p hp => by
  simp only [List.mem_cons, List.not_mem_nil, or_false] at hp
  rcases hp with rfl | rfl | rfl | rfl | rfl | rfl
  · exact Changed.okR
  · exact first6.okR
  · exact made6.okR
  · exact Cores.okR
  · exact N.okR
  · exact num6.okR)
end PeelEdge
namespace PeelColours
abbrev ps : List PM := [.val I64, .val (.list Pr), .val (.list I64)]
abbrev rs : List PM := [.val .bool]
noncomputable abbrev code : Code := (Go.Proofs.Try.f30.body.getD .skip)
abbrev s20 : Shape := ⟨[.un, .un, .un, .un, .un, .un, .un, .un, .v (.obj 0), .un, .row 0, .row 1, .un, .row 2, .un, .v I64, .v (.list (.pair I64 I64)), .v I64, .v I64, .v I64, .v I64, .un, .un, .un, .un, .un, .un, .un, .un, .un, .un, .un, .un, .un, .un, .un, .un, .un, .un, .un, .un, .un, .un, .un, .un, .un, .un, .un, .un, .un, .un, .un, .un, .un, .un, .un, .un, .un, .un, .un, .un, .un, .un, .un, .un, .un, .un, .un, .un, .un, .un, .un, .un, .un, .un, .un, .un, .un, .un, .un, .un, .un, .un, .un, .un, .un, .un, .un, .un, .un, .un, .un, .un, .un, .un, .un, .un, .un, .un, .un, .un, .un, .un, .un, .un, .un, .un, .un, .un, .un, .un, .un, .un, .un, .un, .un, .un, .un, .un, .un, .un, .un, .un, .un, .un, .un, .un, .un, .un, .un, .un, .un, .un, .un, .un, .un, .un, .un, .un, .un, .un, .un, .un, .un, .un, .un, .un, .un, .un, .un, .un, .un, .un, .un, .un, .un, .un, .un, .un, .un, .un, .un, .un, .un, .un, .un, .un, .un, .un, .un, .un, .un, .un, .un, .un, .un, .un, .un, .un, .un, .un, .un, .un, .un, .un, .un, .un, .un, .un, .un, .un, .un, .un, .un, .un, .un, .un, .un, .un, .un], [.row (3 : Go.TypeId) I64, .row (3 : Go.TypeId) I64, .row (3 : Go.TypeId) I64]⟩
abbrev x20 : List Way := [⟨(.ex 2), ⟨[(8, none), (10, none), (11, none), (13, none), (15, none), (16, none), (17, none)]⟩, ⟨[.un, .un, .un, .un, .un, .un, .un, .un, .v (.obj 0), .un, .row 0, .row 1, .un, .row 2, .un, .v I64, .v (.list (.pair I64 I64)), .v I64, .un, .un, .un, .un, .un, .un, .un, .un, .un, .un, .un, .un, .un, .un, .un, .un, .un, .un, .un, .un, .un, .un, .un, .un, .un, .un, .un, .un, .un, .un, .un, .un, .un, .un, .un, .un, .un, .un, .un, .un, .un, .un, .un, .un, .un, .un, .un, .un, .un, .un, .un, .un, .un, .un, .un, .un, .un, .un, .un, .un, .un, .un, .un, .un, .un, .un, .un, .un, .un, .un, .un, .un, .un, .un, .un, .un, .un, .un, .un, .un, .un, .un, .un, .un, .un, .un, .un, .un, .un, .un, .un, .un, .un, .un, .un, .un, .un, .un, .un, .un, .un, .un, .un, .un, .un, .un, .un, .un, .un, .un, .un, .un, .un, .un, .un, .un, .un, .un, .un, .un, .un, .un, .un, .un, .un, .un, .un, .un, .un, .un, .un, .un, .un, .un, .un, .un, .un, .un, .un, .un, .un, .un, .un, .un, .un, .un, .un, .un, .un, .un, .un, .un, .un, .un, .un, .un, .un, .un, .un, .un, .un, .un, .un, .un, .un, .un, .un, .un, .un, .un, .un, .un, .un, .un, .un, .un, .un, .un, .un, .un, .un, .un], [.row (3 : Go.TypeId) I64, .row (3 : Go.TypeId) I64, .row (3 : Go.TypeId) I64]⟩⟩]
abbrev V20 : Type := ((Option Gr) × Int × (List (Int × Int)) × Int × Int × Int × Int × Unit) × ((List Int) × (List Int) × (List Int) × Unit)
abbrev X20 : Type := ((Option Gr) × Int × (List (Int × Int)) × Int × Unit) × ((List Int) × (List Int) × (List Int) × Unit)
noncomputable def R20 {R : Type} (g8 : (Option Gr)) (common15 : Int) (p16 : (List (Int × Int))) (i17 : Int) (u18 : Int) (v19 : Int) (w20 : Int) (r0 : List Int) (r1 : List Int) (r2 : List Int) (k : V20 → Option R) (kx : X20 → Option R) : Option R := (if Decidable.decide (w20 < (↑(List.length r1) : Int)) = Bool.true then (if Has.pre g8 u18 w20 = Bool.true then (if Has.pre g8 v19 w20 = Bool.true then (if (Has.fn g8 u18 w20).1 = Bool.true then (if (Has.fn g8 v19 w20).1 = Bool.true then k ((g8, IntKind.wrap .i64 (common15 + (1 : Int)), p16, i17, u18, v19, IntKind.wrap .i64 (w20 + (1 : Int)), ()), (r0, r1, r2, ()))
 else k ((g8, common15, p16, i17, u18, v19, IntKind.wrap .i64 (w20 + (1 : Int)), ()), (r0, r1, r2, ())))
 else k ((g8, common15, p16, i17, u18, v19, IntKind.wrap .i64 (w20 + (1 : Int)), ()), (r0, r1, r2, ())))
 else none)
 else none)
 else kx (((g8, common15, p16, i17, ()), (r0, r1, r2, ()))))
noncomputable def rd20 : Rd (VO s20) (Xs x20) := fun v k kx => match v with
  | ((g8, common15, p16, i17, u18, v19, w20, _), (r0, r1, r2, _)) => R20 g8 common15 p16 i17 u18 v19 w20 r0 r1 r2 k kx
noncomputable def F20 (g8 : (Option Gr)) (common15 : Int) (p16 : (List (Int × Int))) (i17 : Int) (u18 : Int) (v19 : Int) (w20 : Int) (r0 : List Int) (r1 : List Int) (r2 : List Int) : Option X20 := finOf rd20 ((g8, common15, p16, i17, u18, v19, w20, ()), (r0, r1, r2, ()))
theorem F20_inv {g8 : (Option Gr)} {p16 : (List (Int × Int))} {i17 : Int} {u18 : Int} {v19 : Int} {r0 : List Int} {r1 : List Int} {r2 : List Int} (I : Int → Int → Prop) (μ : Int → Int → Nat) (Q : X20 → Prop) (h : ∀ (common15 : Int) (w20 : Int), I common15 w20 → Led (fun (R : Type) (k : V20 → Option R) (kx : X20 → Option R) => R20 g8 common15 p16 i17 u18 v19 w20 r0 r1 r2 k kx) (fun v => ∃ (common15' : Int) (w20' : Int), v = ((g8, common15', p16, i17, u18, v19, w20', ()), (r0, r1, r2, ())) ∧ I common15' w20' ∧ μ common15' w20' < μ common15 w20) Q) : ∀ (common15 : Int) (w20 : Int), I common15 w20 → ∃ z, F20 g8 common15 p16 i17 u18 v19 w20 r0 r1 r2 = some z ∧ Q z := fun common15 w20 hi => by
  refine finOf_inv (V := V20) (X := X20) (rd := rd20) (fun v => ∃ (common15' : Int) (w20' : Int), v = ((g8, common15', p16, i17, u18, v19, w20', ()), (r0, r1, r2, ())) ∧ I common15' w20') (fun v => match v with
    | ((g8, common15, p16, i17, u18, v19, w20, _), (r0, r1, r2, _)) => μ common15 w20) Q (fun v hv => ?_) ((g8, common15, p16, i17, u18, v19, w20, ()), (r0, r1, r2, ())) ⟨common15, w20, rfl, hi⟩
  obtain ⟨common15, w20, rfl, hi⟩ := hv
  refine led_mono (h common15 w20 hi) ?_ (fun _ q => q)
  rintro v ⟨common15', w20', rfl, h1, h2⟩
  exact ⟨⟨common15', w20', rfl, h1⟩, h2⟩
noncomputable def L20 : Lp := ⟨20, ⟨[(8, none), (10, none), (11, none), (13, none), (15, none), (16, none), (17, none), (18, none), (19, none), (20, none)]⟩, s20, x20, fun v => match v with
  | ((g8, common15, p16, i17, u18, v19, w20, _), (r0, r1, r2, _)) => F20 g8 common15 p16 i17 u18 v19 w20 r0 r1 r2⟩
theorem ends20 : Ends L20 rd20 := ends_fin (fun v => by
  obtain ⟨⟨g8, common15, p16, i17, u18, v19, w20, _⟩, ⟨r0, r1, r2, _⟩⟩ := v
  rfl)
abbrev s13 : Shape := ⟨[.un, .un, .un, .un, .un, .un, .un, .un, .v (.obj 0), .un, .row 0, .row 1, .un, .row 2, .un, .v I64, .v (.list (.pair I64 I64)), .v I64, .un, .un, .un, .un, .un, .un, .un, .un, .un, .un, .un, .un, .un, .un, .un, .un, .un, .un, .un, .un, .un, .un, .un, .un, .un, .un, .un, .un, .un, .un, .un, .un, .un, .un, .un, .un, .un, .un, .un, .un, .un, .un, .un, .un, .un, .un, .un, .un, .un, .un, .un, .un, .un, .un, .un, .un, .un, .un, .un, .un, .un, .un, .un, .un, .un, .un, .un, .un, .un, .un, .un, .un, .un, .un, .un, .un, .un, .un, .un, .un, .un, .un, .un, .un, .un, .un, .un, .un, .un, .un, .un, .un, .un, .un, .un, .un, .un, .un, .un, .un, .un, .un, .un, .un, .un, .un, .un, .un, .un, .un, .un, .un, .un, .un, .un, .un, .un, .un, .un, .un, .un, .un, .un, .un, .un, .un, .un, .un, .un, .un, .un, .un, .un, .un, .un, .un, .un, .un, .un, .un, .un, .un, .un, .un, .un, .un, .un, .un, .un, .un, .un, .un, .un, .un, .un, .un, .un, .un, .un, .un, .un, .un, .un, .un, .un, .un, .un, .un, .un, .un, .un, .un, .un, .un, .un, .un, .un, .un, .un, .un, .un, .un], [.row (3 : Go.TypeId) I64, .row (3 : Go.TypeId) I64, .row (3 : Go.TypeId) I64]⟩
abbrev x13 : List Way := [⟨.rt, ⟨[(6, none)]⟩, ⟨[.un, .un, .un, .un, .un, .un, .v .bool, .un, .un, .un, .un, .un, .un, .un, .un, .un, .un, .un, .un, .un, .un, .un, .un, .un, .un, .un, .un, .un, .un, .un, .un, .un, .un, .un, .un, .un, .un, .un, .un, .un, .un, .un, .un, .un, .un, .un, .un, .un, .un, .un, .un, .un, .un, .un, .un, .un, .un, .un, .un, .un, .un, .un, .un, .un, .un, .un, .un, .un, .un, .un, .un, .un, .un, .un, .un, .un, .un, .un, .un, .un, .un, .un, .un, .un, .un, .un, .un, .un, .un, .un, .un, .un, .un, .un, .un, .un, .un, .un, .un, .un, .un, .un, .un, .un, .un, .un, .un, .un, .un, .un, .un, .un, .un, .un, .un, .un, .un, .un, .un, .un, .un, .un, .un, .un, .un, .un, .un, .un, .un, .un, .un, .un, .un, .un, .un, .un, .un, .un, .un, .un, .un, .un, .un, .un, .un, .un, .un, .un, .un, .un, .un, .un, .un, .un, .un, .un, .un, .un, .un, .un, .un, .un, .un, .un, .un, .un, .un, .un, .un, .un, .un, .un, .un, .un, .un, .un, .un, .un, .un, .un, .un, .un, .un, .un, .un, .un, .un, .un, .un, .un, .un, .un, .un, .un, .un, .un, .un, .un, .un, .un], []⟩⟩, ⟨(.ex 0), ⟨[(8, none), (10, none), (13, none), (15, none), (16, none)]⟩, ⟨[.un, .un, .un, .un, .un, .un, .un, .un, .v (.obj 0), .un, .row 0, .un, .un, .row 1, .un, .v I64, .v (.list (.pair I64 I64)), .un, .un, .un, .un, .un, .un, .un, .un, .un, .un, .un, .un, .un, .un, .un, .un, .un, .un, .un, .un, .un, .un, .un, .un, .un, .un, .un, .un, .un, .un, .un, .un, .un, .un, .un, .un, .un, .un, .un, .un, .un, .un, .un, .un, .un, .un, .un, .un, .un, .un, .un, .un, .un, .un, .un, .un, .un, .un, .un, .un, .un, .un, .un, .un, .un, .un, .un, .un, .un, .un, .un, .un, .un, .un, .un, .un, .un, .un, .un, .un, .un, .un, .un, .un, .un, .un, .un, .un, .un, .un, .un, .un, .un, .un, .un, .un, .un, .un, .un, .un, .un, .un, .un, .un, .un, .un, .un, .un, .un, .un, .un, .un, .un, .un, .un, .un, .un, .un, .un, .un, .un, .un, .un, .un, .un, .un, .un, .un, .un, .un, .un, .un, .un, .un, .un, .un, .un, .un, .un, .un, .un, .un, .un, .un, .un, .un, .un, .un, .un, .un, .un, .un, .un, .un, .un, .un, .un, .un, .un, .un, .un, .un, .un, .un, .un, .un, .un, .un, .un, .un, .un, .un, .un, .un, .un, .un, .un, .un, .un, .un, .un, .un, .un], [.row (3 : Go.TypeId) I64, .row (3 : Go.TypeId) I64]⟩⟩]
abbrev V13 : Type := ((Option Gr) × Int × (List (Int × Int)) × Int × Unit) × ((List Int) × (List Int) × (List Int) × Unit)
abbrev X13 : Type := ((Bool × Unit) × (Unit)) ⊕ (((Option Gr) × Int × (List (Int × Int)) × Unit) × ((List Int) × (List Int) × Unit))
noncomputable def R13 {R : Type} (g8 : (Option Gr)) (common15 : Int) (p16 : (List (Int × Int))) (i17 : Int) (r0 : List Int) (r1 : List Int) (r2 : List Int) (k : V13 → Option R) (kx : X13 → Option R) : Option R := (if Decidable.decide (i17 < (↑(List.length p16) : Int)) = Bool.true then (if (0 : Int) ≤ i17 then (if i17 < (↑(List.length p16) : Int) then (if (0 : Int) ≤ i17 then (if i17 < (↑(List.length p16) : Int) then (if Decidable.decide ((List.getD p16 (Int.toNat i17) ((0 : Int), (0 : Int))).1 < (0 : Int)) = Bool.false then (if Decidable.decide ((List.getD p16 (Int.toNat i17) ((0 : Int), (0 : Int))).2 < (0 : Int)) = Bool.false then (if Decidable.decide ((List.getD p16 (Int.toNat i17) ((0 : Int), (0 : Int))).1 ≥ (↑(List.length r1) : Int)) = Bool.false then (if Decidable.decide ((List.getD p16 (Int.toNat i17) ((0 : Int), (0 : Int))).2 ≥ (↑(List.length r1) : Int)) = Bool.false then (if (0 : Int) ≤ (List.getD p16 (Int.toNat i17) ((0 : Int), (0 : Int))).1 then (if (List.getD p16 (Int.toNat i17) ((0 : Int), (0 : Int))).1 < (↑(List.length r1) : Int) then (if (0 : Int) ≤ (List.getD p16 (Int.toNat i17) ((0 : Int), (0 : Int))).2 then (if (List.getD p16 (Int.toNat i17) ((0 : Int), (0 : Int))).2 < (↑(List.length r1) : Int) then (if (List.getD r1 (Int.toNat (List.getD p16 (Int.toNat i17) ((0 : Int), (0 : Int))).1) (0 : Int) == List.getD r1 (Int.toNat (List.getD p16 (Int.toNat i17) ((0 : Int), (0 : Int))).2) (0 : Int)) = Bool.false then (if (0 : Int) ≤ (List.getD p16 (Int.toNat i17) ((0 : Int), (0 : Int))).1 then (if (List.getD p16 (Int.toNat i17) ((0 : Int), (0 : Int))).1 < (↑(List.length r2) : Int) then (if (0 : Int) ≤ (List.getD p16 (Int.toNat i17) ((0 : Int), (0 : Int))).2 then (if (List.getD p16 (Int.toNat i17) ((0 : Int), (0 : Int))).2 < (↑(List.length r2) : Int) then (if (List.getD r2 (Int.toNat (List.getD p16 (Int.toNat i17) ((0 : Int), (0 : Int))).1) (0 : Int) == List.getD r2 (Int.toNat (List.getD p16 (Int.toNat i17) ((0 : Int), (0 : Int))).2) (0 : Int)) = Bool.true then kx (Sum.inl <| ((Bool.false, ()), (())))
 else (match F20 (g8) (common15) (p16) (i17) ((List.getD p16 (Int.toNat i17) ((0 : Int), (0 : Int))).1) ((List.getD p16 (Int.toNat i17) ((0 : Int), (0 : Int))).2) ((0 : Int)) (r0) (r1) (r2) with
  | some (((g8_1, common15_1, p16_1, i17_1, _), (r0_1, r1_1, r2_1, _))) => k ((g8_1, common15_1, p16_1, IntKind.wrap .i64 (i17_1 + (1 : Int)), ()), (r0_1, r1_1, r2_1, ()))
  | none => none))
 else none)
 else none)
 else none)
 else none)
 else kx (Sum.inl <| ((Bool.false, ()), (()))))
 else none)
 else none)
 else none)
 else none)
 else kx (Sum.inl <| ((Bool.false, ()), (()))))
 else kx (Sum.inl <| ((Bool.false, ()), (()))))
 else kx (Sum.inl <| ((Bool.false, ()), (()))))
 else kx (Sum.inl <| ((Bool.false, ()), (()))))
 else none)
 else none)
 else none)
 else none)
 else kx (Sum.inr <| ((g8, common15, p16, ()), (r0, r2, ()))))
noncomputable def rd13 : Rd (VO s13) (Xs x13) := fun v k kx => match v with
  | ((g8, common15, p16, i17, _), (r0, r1, r2, _)) => R13 g8 common15 p16 i17 r0 r1 r2 k kx
noncomputable def F13 (g8 : (Option Gr)) (common15 : Int) (p16 : (List (Int × Int))) (i17 : Int) (r0 : List Int) (r1 : List Int) (r2 : List Int) : Option X13 := finOf rd13 ((g8, common15, p16, i17, ()), (r0, r1, r2, ()))
theorem F13_inv {g8 : (Option Gr)} {p16 : (List (Int × Int))} {r0 : List Int} {r1 : List Int} {r2 : List Int} (I : Int → Int → Prop) (μ : Int → Int → Nat) (Q : X13 → Prop) (h : ∀ (common15 : Int) (i17 : Int), I common15 i17 → Led (fun (R : Type) (k : V13 → Option R) (kx : X13 → Option R) => R13 g8 common15 p16 i17 r0 r1 r2 k kx) (fun v => ∃ (common15' : Int) (i17' : Int), v = ((g8, common15', p16, i17', ()), (r0, r1, r2, ())) ∧ I common15' i17' ∧ μ common15' i17' < μ common15 i17) Q) : ∀ (common15 : Int) (i17 : Int), I common15 i17 → ∃ z, F13 g8 common15 p16 i17 r0 r1 r2 = some z ∧ Q z := fun common15 i17 hi => by
  refine finOf_inv (V := V13) (X := X13) (rd := rd13) (fun v => ∃ (common15' : Int) (i17' : Int), v = ((g8, common15', p16, i17', ()), (r0, r1, r2, ())) ∧ I common15' i17') (fun v => match v with
    | ((g8, common15, p16, i17, _), (r0, r1, r2, _)) => μ common15 i17) Q (fun v hv => ?_) ((g8, common15, p16, i17, ()), (r0, r1, r2, ())) ⟨common15, i17, rfl, hi⟩
  obtain ⟨common15, i17, rfl, hi⟩ := hv
  refine led_mono (h common15 i17 hi) ?_ (fun _ q => q)
  rintro v ⟨common15', i17', rfl, h1, h2⟩
  exact ⟨⟨common15', i17', rfl, h1⟩, h2⟩
noncomputable def L13 : Lp := ⟨13, ⟨[(8, none), (10, none), (11, none), (13, none), (15, none), (16, none), (17, none)]⟩, s13, x13, fun v => match v with
  | ((g8, common15, p16, i17, _), (r0, r1, r2, _)) => F13 g8 common15 p16 i17 r0 r1 r2⟩
theorem ends13 : Ends L13 rd13 := ends_fin (fun v => by
  obtain ⟨⟨g8, common15, p16, i17, _⟩, ⟨r0, r1, r2, _⟩⟩ := v
  rfl)
abbrev s27 : Shape := ⟨[.un, .un, .un, .un, .un, .un, .un, .un, .v (.obj 0), .un, .row 0, .un, .un, .row 1, .un, .v I64, .v (.list (.pair I64 I64)), .un, .un, .un, .un, .un, .un, .v I64, .un, .un, .un, .un, .un, .un, .un, .un, .un, .un, .un, .un, .un, .un, .un, .un, .un, .un, .un, .un, .un, .un, .un, .un, .un, .un, .un, .un, .un, .un, .un, .un, .un, .un, .un, .un, .un, .un, .un, .un, .un, .un, .un, .un, .un, .un, .un, .un, .un, .un, .un, .un, .un, .un, .un, .un, .un, .un, .un, .un, .un, .un, .un, .un, .un, .un, .un, .un, .un, .un, .un, .un, .un, .un, .un, .un, .un, .un, .un, .un, .un, .un, .un, .un, .un, .un, .un, .un, .un, .un, .un, .un, .un, .un, .un, .un, .un, .un, .un, .un, .un, .un, .un, .un, .un, .un, .un, .un, .un, .un, .un, .un, .un, .un, .un, .un, .un, .un, .un, .un, .un, .un, .un, .un, .un, .un, .un, .un, .un, .un, .un, .un, .un, .un, .un, .un, .un, .un, .un, .un, .un, .un, .un, .un, .un, .un, .un, .un, .un, .un, .un, .un, .un, .un, .un, .un, .un, .un, .un, .un, .un, .un, .un, .un, .un, .un, .un, .un, .un, .un, .un, .un, .un, .un, .un, .un], [.row (3 : Go.TypeId) I64, .row (3 : Go.TypeId) I64]⟩
abbrev x27 : List Way := [⟨.rt, ⟨[(6, none)]⟩, ⟨[.un, .un, .un, .un, .un, .un, .v .bool, .un, .un, .un, .un, .un, .un, .un, .un, .un, .un, .un, .un, .un, .un, .un, .un, .un, .un, .un, .un, .un, .un, .un, .un, .un, .un, .un, .un, .un, .un, .un, .un, .un, .un, .un, .un, .un, .un, .un, .un, .un, .un, .un, .un, .un, .un, .un, .un, .un, .un, .un, .un, .un, .un, .un, .un, .un, .un, .un, .un, .un, .un, .un, .un, .un, .un, .un, .un, .un, .un, .un, .un, .un, .un, .un, .un, .un, .un, .un, .un, .un, .un, .un, .un, .un, .un, .un, .un, .un, .un, .un, .un, .un, .un, .un, .un, .un, .un, .un, .un, .un, .un, .un, .un, .un, .un, .un, .un, .un, .un, .un, .un, .un, .un, .un, .un, .un, .un, .un, .un, .un, .un, .un, .un, .un, .un, .un, .un, .un, .un, .un, .un, .un, .un, .un, .un, .un, .un, .un, .un, .un, .un, .un, .un, .un, .un, .un, .un, .un, .un, .un, .un, .un, .un, .un, .un, .un, .un, .un, .un, .un, .un, .un, .un, .un, .un, .un, .un, .un, .un, .un, .un, .un, .un, .un, .un, .un, .un, .un, .un, .un, .un, .un, .un, .un, .un, .un, .un, .un, .un, .un, .un, .un], []⟩⟩, ⟨(.ex 4), ⟨[(8, none), (10, none), (15, none), (16, none)]⟩, ⟨[.un, .un, .un, .un, .un, .un, .un, .un, .v (.obj 0), .un, .row 0, .un, .un, .un, .un, .v I64, .v (.list (.pair I64 I64)), .un, .un, .un, .un, .un, .un, .un, .un, .un, .un, .un, .un, .un, .un, .un, .un, .un, .un, .un, .un, .un, .un, .un, .un, .un, .un, .un, .un, .un, .un, .un, .un, .un, .un, .un, .un, .un, .un, .un, .un, .un, .un, .un, .un, .un, .un, .un, .un, .un, .un, .un, .un, .un, .un, .un, .un, .un, .un, .un, .un, .un, .un, .un, .un, .un, .un, .un, .un, .un, .un, .un, .un, .un, .un, .un, .un, .un, .un, .un, .un, .un, .un, .un, .un, .un, .un, .un, .un, .un, .un, .un, .un, .un, .un, .un, .un, .un, .un, .un, .un, .un, .un, .un, .un, .un, .un, .un, .un, .un, .un, .un, .un, .un, .un, .un, .un, .un, .un, .un, .un, .un, .un, .un, .un, .un, .un, .un, .un, .un, .un, .un, .un, .un, .un, .un, .un, .un, .un, .un, .un, .un, .un, .un, .un, .un, .un, .un, .un, .un, .un, .un, .un, .un, .un, .un, .un, .un, .un, .un, .un, .un, .un, .un, .un, .un, .un, .un, .un, .un, .un, .un, .un, .un, .un, .un, .un, .un, .un, .un, .un, .un, .un, .un], [.row (3 : Go.TypeId) I64]⟩⟩]
abbrev V27 : Type := ((Option Gr) × Int × (List (Int × Int)) × Int × Unit) × ((List Int) × (List Int) × Unit)
abbrev X27 : Type := ((Bool × Unit) × (Unit)) ⊕ (((Option Gr) × Int × (List (Int × Int)) × Unit) × ((List Int) × Unit))
noncomputable def R27 {R : Type} (g8 : (Option Gr)) (common15 : Int) (p16 : (List (Int × Int))) (v23 : Int) (r0 : List Int) (r1 : List Int) (k : V27 → Option R) (kx : X27 → Option R) : Option R := (if Decidable.decide (v23 < (↑(List.length r1) : Int)) = Bool.true then (if (0 : Int) ≤ v23 then (if v23 < (↑(List.length r1) : Int) then (if Decidable.decide (List.getD r1 (Int.toNat v23) (0 : Int) < (0 : Int)) = Bool.false then (if (0 : Int) ≤ v23 then (if v23 < (↑(List.length r1) : Int) then (if (0 : Int) ≤ v23 then (if v23 < (↑(List.length r0) : Int) then (if Decidable.decide (List.getD r1 (Int.toNat v23) (0 : Int) > List.getD r0 (Int.toNat v23) (0 : Int)) = Bool.true then kx (Sum.inl <| ((Bool.false, ()), (())))
 else k ((g8, common15, p16, IntKind.wrap .i64 (v23 + (1 : Int)), ()), (r0, r1, ())))
 else none)
 else none)
 else none)
 else none)
 else kx (Sum.inl <| ((Bool.false, ()), (()))))
 else none)
 else none)
 else kx (Sum.inr <| ((g8, common15, p16, ()), (r0, ()))))
noncomputable def rd27 : Rd (VO s27) (Xs x27) := fun v k kx => match v with
  | ((g8, common15, p16, v23, _), (r0, r1, _)) => R27 g8 common15 p16 v23 r0 r1 k kx
noncomputable def F27 (g8 : (Option Gr)) (common15 : Int) (p16 : (List (Int × Int))) (v23 : Int) (r0 : List Int) (r1 : List Int) : Option X27 := finOf rd27 ((g8, common15, p16, v23, ()), (r0, r1, ()))
theorem F27_inv {g8 : (Option Gr)} {common15 : Int} {p16 : (List (Int × Int))} {r0 : List Int} {r1 : List Int} (I : Int → Prop) (μ : Int → Nat) (Q : X27 → Prop) (h : ∀ (v23 : Int), I v23 → Led (fun (R : Type) (k : V27 → Option R) (kx : X27 → Option R) => R27 g8 common15 p16 v23 r0 r1 k kx) (fun v => ∃ (v23' : Int), v = ((g8, common15, p16, v23', ()), (r0, r1, ())) ∧ I v23' ∧ μ v23' < μ v23) Q) : ∀ (v23 : Int), I v23 → ∃ z, F27 g8 common15 p16 v23 r0 r1 = some z ∧ Q z := fun v23 hi => by
  refine finOf_inv (V := V27) (X := X27) (rd := rd27) (fun v => ∃ (v23' : Int), v = ((g8, common15, p16, v23', ()), (r0, r1, ())) ∧ I v23') (fun v => match v with
    | ((g8, common15, p16, v23, _), (r0, r1, _)) => μ v23) Q (fun v hv => ?_) ((g8, common15, p16, v23, ()), (r0, r1, ())) ⟨v23, rfl, hi⟩
  obtain ⟨v23, rfl, hi⟩ := hv
  refine led_mono (h v23 hi) ?_ (fun _ q => q)
  rintro v ⟨v23', rfl, h1, h2⟩
  exact ⟨⟨v23', rfl, h1⟩, h2⟩
noncomputable def L27 : Lp := ⟨27, ⟨[(8, none), (10, none), (13, none), (15, none), (16, none), (23, none)]⟩, s27, x27, fun v => match v with
  | ((g8, common15, p16, v23, _), (r0, r1, _)) => F27 g8 common15 p16 v23 r0 r1⟩
theorem ends27 : Ends L27 rd27 := ends_fin (fun v => by
  obtain ⟨⟨g8, common15, p16, v23, _⟩, ⟨r0, r1, _⟩⟩ := v
  rfl)
noncomputable def env : Env := mkEnv tab6 [(35, Pairs.sig), (41, Has.sig), (80, first6.sig), (81, made6.sig), (82, Cores.sig), (84, OrderP.sig), (91, TriP.sig), (93, N.sig), (97, greatL.sig), (101, num6.sig), (103, shufL.sig), (104, ColP.sig)] 0 [(17, [0, 1, 2, 3, 4, 5, 6, 7, 8, 9, 10, 11, 12, 13, 14, 15, 16, 17, 18, 19, 20, 21, 22, 23, 24, 25, 26, 27, 28, 29, 30, 31, 32, 33, 34, 35, 36, 37, 38, 39]), (29, [0, 1, 2, 3, 4, 5, 6, 7, 8, 9, 10, 11, 12, 13, 14, 15])] [L20, L13, L27]
theorem round20 : RoundIs env (sub [true, true, true, true, true, true, true, true, true, true, false, true, false, false, true, false, false, true, true, true, true, false, false] code) L20 rd20 := fun R v k kx => by kernel_rfl
theorem round13 : RoundIs env (sub [true, true, true, true, true, true, true, true, true, true, false, true, false, false] code) L13 rd13 := fun R v k kx => by kernel_rfl
theorem round27 : RoundIs env (sub [true, true, true, true, true, true, true, true, true, true, true, false, true, false, false] code) L27 rd27 := fun R v k kx => by kernel_rfl
abbrev D : Type := (Bool × Unit)
noncomputable def run' (n0 : Int) (l1 : (List (Int × Int))) (order2 : (List Int)) : Option D := (if first6.pre = Bool.true then (if made6.pre n0 l1 = Bool.true then (if (!first6.fn.1) = Bool.false then (if Option.isNone (made6.fn n0 l1).1 = Bool.true then some (Bool.false, ())
 else (if Cores.pre (made6.fn n0 l1).1 = Bool.true then (if N.pre (made6.fn n0 l1).1 = Bool.true then (if shufL.pre (N.fn (made6.fn n0 l1).1).1 order2 = Bool.true then (if ColP.pre (made6.fn n0 l1).1 (shufL.fn (N.fn (made6.fn n0 l1).1).1 order2).1 = Bool.true then (if OrderP.pre (made6.fn n0 l1).1 = Bool.true then (if ColP.pre (made6.fn n0 l1).1 (OrderP.fn (made6.fn n0 l1).1).1 = Bool.true then (if num6.pre (ColP.fn (made6.fn n0 l1).1 (shufL.fn (N.fn (made6.fn n0 l1).1).1 order2).1).2.1 = Bool.true then (if ((num6.fn (ColP.fn (made6.fn n0 l1).1 (shufL.fn (N.fn (made6.fn n0 l1).1).1 order2).1).2.1).1 != (0 : Int)) = Bool.false then (if num6.pre (ColP.fn (made6.fn n0 l1).1 (OrderP.fn (made6.fn n0 l1).1).1).2.1 = Bool.true then (if ((num6.fn (ColP.fn (made6.fn n0 l1).1 (OrderP.fn (made6.fn n0 l1).1).1).2.1).1 != (0 : Int)) = Bool.false then (if N.pre (made6.fn n0 l1).1 = Bool.true then (if ((↑(List.length (ColP.fn (made6.fn n0 l1).1 (shufL.fn (N.fn (made6.fn n0 l1).1).1 order2).1).1) : Int) != (N.fn (made6.fn n0 l1).1).1) = Bool.false then (if N.pre (made6.fn n0 l1).1 = Bool.true then (if ((↑(List.length (ColP.fn (made6.fn n0 l1).1 (OrderP.fn (made6.fn n0 l1).1).1).1) : Int) != (N.fn (made6.fn n0 l1).1).1) = Bool.false then (if N.pre (made6.fn n0 l1).1 = Bool.true then (if ((↑(List.length (Cores.fn (made6.fn n0 l1).1).1) : Int) != (N.fn (made6.fn n0 l1).1).1) = Bool.true then some (Bool.false, ())
 else (if Pairs.pre (made6.fn n0 l1).1 = Bool.true then (match F13 ((made6.fn n0 l1).1) ((0 : Int)) ((Pairs.fn (made6.fn n0 l1).1).1) ((0 : Int)) ((Cores.fn (made6.fn n0 l1).1).1) ((ColP.fn (made6.fn n0 l1).1 (shufL.fn (N.fn (made6.fn n0 l1).1).1 order2).1).1) ((ColP.fn (made6.fn n0 l1).1 (OrderP.fn (made6.fn n0 l1).1).1).1) with
  | some (Sum.inl <| ((t6_2, _), _)) => some (t6_2, ())
  | some (Sum.inr <| ((g8_3, common15_3, p16_3, _), (r0_3, r1_3, _))) => (match F27 (g8_3) (common15_3) (p16_3) ((0 : Int)) (r0_3) (r1_3) with
  | some (Sum.inl <| ((t6_4, _), _)) => some (t6_4, ())
  | some (Sum.inr <| ((g8_5, common15_5, p16_5, _), (r0_5, _))) => (if TriP.pre g8_5 = Bool.true then (if (common15_5 == IntKind.wrap .i64 ((3 : Int) * (TriP.fn g8_5).1)) = Bool.true then (if greatL.pre r0_5 = Bool.true then some (Decidable.decide ((TriP.fn g8_5).1 ≤ IntKind.wrap .i64 ((greatL.fn r0_5).1 * (↑(List.length p16_5) : Int))), ())
 else none)
 else some (Bool.false, ()))
 else none)
  | none => none)
  | none => none)
 else none))
 else none)
 else some (Bool.false, ()))
 else none)
 else some (Bool.false, ()))
 else none)
 else some (Bool.false, ()))
 else none)
 else some (Bool.false, ()))
 else none)
 else none)
 else none)
 else none)
 else none)
 else none)
 else none))
 else some (Bool.false, ()))
 else none)
 else none)
noncomputable def run (d : Ds (List.map PM.ty ps)) : Option (Ds (muts ps ++ List.map PM.ty rs)) := match d with
  | (n0, l1, order2, _) => run' n0 l1 order2
theorem run_is : ∀ d, runF env 200 code [6] ps rs d = run d := fun d => by kernel_rfl
theorem loops : LoopsOk env code := loopsOk_of (l := [[true, true, true, true, true, true, true, true, true, true, false, true, false, false], [true, true, true, true, true, true, true, true, true, true, false, true, false, false, true, false, false, true, true, true, true, false, false], [true, true, true, true, true, true, true, true, true, true, true, false, true, false, false]]) (by kernel_rfl) (fun p hp => by
  simp only [List.mem_cons, List.not_mem_nil, or_false] at hp
  rcases hp with rfl | rfl | rfl
  · exact loopOk_lp (L := L13) (x := sub [true, true, true, true, true, true, true, true, true, true, false, true, false, false] code) (by kernel_rfl) (by simp [L13]) round13 ends13
  · exact loopOk_lp (L := L20) (x := sub [true, true, true, true, true, true, true, true, true, true, false, true, false, false, true, false, false, true, true, true, true, false, false] code) (by kernel_rfl) (by simp [L20]) round20 ends20
  · exact loopOk_lp (L := L27) (x := sub [true, true, true, true, true, true, true, true, true, true, true, false, true, false, false] code) (by kernel_rfl) (by simp [L27]) round27 ends27
  )
noncomputable def pre (n0 : Int) (l1 : (List (Int × Int))) (order2 : (List Int)) : Bool := (run' n0 l1 order2).isSome
noncomputable def fn (n0 : Int) (l1 : (List (Int × Int))) (order2 : (List Int)) : D := match run' n0 l1 order2 with
  | some x => x
  | none => default
noncomputable def sig : Sig := ⟨ps, rs, fun d => match d with
  | (n0, l1, order2, _) => pre n0 l1 order2, fun d => match d with
  | (n0, l1, order2, _) => fn n0 l1 order2, false⟩
theorem run_fn (n0 : Int) (l1 : (List (Int × Int))) (order2 : (List Int)) (h : pre n0 l1 order2 = true) : run' n0 l1 order2 = some (fn n0 l1 order2) := by
  unfold pre at h
  unfold fn
  cases e : run' n0 l1 order2 with
  | some x => rfl
  | none => rw [e] at h; cases h
theorem is_fn (n0 : Int) (l1 : (List (Int × Int))) (order2 : (List Int)) {x : D} (h : run' n0 l1 order2 = some x) : pre n0 l1 order2 = true ∧ fn n0 l1 order2 = x := by
  unfold pre fn
  rw [h]
  exact ⟨rfl, rfl⟩
theorem sound {ρ : Obs} (hE : EnvOk Go.Proofs.Try.prog ρ env) : Sound Go.Proofs.Try.prog ρ 30 sig := sound_of (fn := Go.Proofs.Try.f30) (c := code) (res := [6]) hE (by kernel_rfl) (by kernel_rfl) (by kernel_rfl) (by kernel_rfl) (by kernel_rfl) loops rfl (show 3 ≤ 200 by decide) (fun d hd => (run_is d).trans (by
  obtain ⟨n0, l1, order2, _⟩ := d
  exact run_fn n0 l1 order2 hd))
theorem enters : Enters Go.Proofs.Try.prog 30 := enters_of (fn := Go.Proofs.Try.f30) (by kernel_rfl) (by kernel_rfl) (by kernel_rfl)
theorem ok {ρ : Obs} (h : ∀ p ∈ ([(35, Pairs.sig), (41, Has.sig), (80, first6.sig), (81, made6.sig), (82, Cores.sig), (84, OrderP.sig), (91, TriP.sig), (93, N.sig), (97, greatL.sig), (101, num6.sig), (103, shufL.sig), (104, ColP.sig)] : List (FuncId × Sig)), Enters Go.Proofs.Try.prog p.1 ∧ Sound Go.Proofs.Try.prog ρ p.1 p.2) : Enters Go.Proofs.Try.prog 30 ∧ Sound Go.Proofs.Try.prog ρ 30 sig := ⟨enters, sound (envOk_of tab6Ok h)⟩
theorem okR : Enters Go.Proofs.Try.prog 30 ∧ Sound Go.Proofs.Try.prog rho 30 sig := ok (fun p hp => by
  simp only [List.mem_cons, List.not_mem_nil, or_false] at hp
  rcases hp with rfl | rfl | rfl | rfl | rfl | rfl | rfl | rfl | rfl | rfl | rfl | rfl
  · exact Pairs.okR
  · exact Has.okR
  · exact first6.okR
  · exact made6.okR
  · exact Cores.okR
  · exact OrderP.okR
  · exact TriP.okR
  · exact N.okR
  · exact greatL.okR
  · exact num6.okR
  · exact shufL.okR
  · exact ColP.okR)
end PeelColours
end Go.Proofs.Ythbojpaghbbnnaa.Z
namespace Go.Proofs.Ythbojpaghbbnnaa.Z
open Go Go.RowKit
set_option linter.unusedVariables false
set_option linter.unusedSimpArgs false
abbrev G6 : Gr := Gr.ofPairs 6 l6
theorem G6_ok : G6.Ok := ofPairs_ok (by decide) (fun p hp => List.all_eq_true.1 (show l6.all (fun p => okP 6 p) = true by kernel_rfl) p hp)
theorem g0 : nbsOf G6 0 = [1, 2] := by kernel_rfl
theorem g1 : nbsOf G6 1 = [0, 2] := by kernel_rfl
theorem g2 : nbsOf G6 2 = [0, 1, 3] := by kernel_rfl
theorem g3 : nbsOf G6 3 = [2, 4] := by kernel_rfl
theorem g4 : nbsOf G6 4 = [3] := by kernel_rfl
theorem g5 : nbsOf G6 5 = [] := by kernel_rfl
theorem six {P : Nat → Prop} (h0 : P 0) (h1 : P 1) (h2 : P 2) (h3 : P 3) (h4 : P 4) (h5 : P 5) (v : Nat) (hv : v < 6) : P v := by
  obtain rfl | rfl | rfl | rfl | rfl | rfl : v = 0 ∨ v = 1 ∨ v = 2 ∨ v = 3 ∨ v = 4 ∨ v = 5 := by omega
  · exact h0
  · exact h1
  · exact h2
  · exact h3
  · exact h4
  · exact h5
theorem dense_of {m : Nat} {k : Int} (hm : m ≤ 6) (h : ∀ u, u < m → k ≤ Hx.inSet (fun x => decide (x < m)) (nbsOf G6 u)) : Hx.Dense 6 (nbsOf G6) (fun x => decide (x < m)) k := fun u hu => by
  have : u < m := by simpa using hu
  exact ⟨by omega, h u this⟩
theorem in3 : Hx.Dense 6 (nbsOf G6) (fun x => decide (x < 3)) 2 := dense_of (by decide) (fun u hu => by
  obtain rfl | rfl | rfl : u = 0 ∨ u = 1 ∨ u = 2 := by omega
  · rw [g0]; decide
  · rw [g1]; decide
  · rw [g2]; decide)
theorem in5 : Hx.Dense 6 (nbsOf G6) (fun x => decide (x < 5)) 1 := dense_of (by decide) (fun u hu => by
  obtain rfl | rfl | rfl | rfl | rfl : u = 0 ∨ u = 1 ∨ u = 2 ∨ u = 3 ∨ u = 4 := by omega
  · rw [g0]; decide
  · rw [g1]; decide
  · rw [g2]; decide
  · rw [g3]; decide
  · rw [g4]; decide)
theorem not_deg {S : Nat → Bool} {k : Int} (h : Hx.Dense 6 (nbsOf G6) S k) {u : Nat} (hu : ((nbsOf G6 u).length : Int) < k) : S u = false := by
  cases hs : S u with
  | false => rfl
  | true =>
    have h1 := (h u hs).2
    have h2 := Hx.inSet_le S (nbsOf G6 u)
    omega
theorem cores6 : coresOf G6 = [2, 2, 2, 1, 1, 0] := coresOf_is {
  len := rfl
  nonneg := six (P := fun v => (0 : Int) ≤ List.getD [2, 2, 2, 1, 1, 0] v 0) (by decide) (by decide) (by decide) (by decide) (by decide) (by decide)
  isin := six (P := fun v => Hx.InCore 6 (nbsOf G6) (List.getD [2, 2, 2, 1, 1, 0] v 0) v) ⟨_, rfl, in3⟩ ⟨_, rfl, in3⟩ ⟨_, rfl, in3⟩ ⟨_, rfl, in5⟩ ⟨_, rfl, in5⟩ (Hx.inCore_zero (by decide))
  most := six (P := fun v => ¬ Hx.InCore 6 (nbsOf G6) (List.getD [2, 2, 2, 1, 1, 0] v 0 + 1) v)
    (fun ⟨S, hS, hD⟩ => by rw [not_deg (u := 0) hD (by rw [g0]; decide)] at hS; cases hS)
    (fun ⟨S, hS, hD⟩ => by rw [not_deg (u := 1) hD (by rw [g1]; decide)] at hS; cases hS)
    (fun ⟨S, hS, hD⟩ => by
      have s0 := not_deg (u := 0) hD (by rw [g0]; decide)
      have h := (hD 2 hS).2
      rw [g2] at h
      have e : Hx.inSet S [0, 1, 3] = Hx.inSet S [1, 3] := by
        unfold Hx.inSet
        rw [List.countP_cons, if_neg (by rw [show S (Int.toNat 0) = S 0 from rfl, s0]; simp)]
        rfl
      rw [e] at h
      have h2 := Hx.inSet_le S [1, 3]
      have : (3 : Int) ≤ 2 := Int.le_trans h h2
      omega)
    (fun ⟨S, hS, hD⟩ => by
      have s4 := not_deg (u := 4) hD (by rw [g4]; decide)
      have h := (hD 3 hS).2
      rw [g3] at h
      have e : Hx.inSet S [2, 4] = Hx.inSet S [2] := by
        unfold Hx.inSet
        rw [List.countP_cons, List.countP_cons, List.countP_cons, if_neg (c := S (Int.toNat 4) = true) (by rw [show S (Int.toNat 4) = S 4 from rfl, s4]; simp), Nat.add_zero]
      rw [e] at h
      have h2 := Hx.inSet_le S [2]
      have : (2 : Int) ≤ 1 := Int.le_trans h h2
      omega)
    (fun ⟨S, hS, hD⟩ => by rw [not_deg (u := 4) hD (by rw [g4]; decide)] at hS; cases hS)
    (fun ⟨S, hS, hD⟩ => by rw [not_deg (u := 5) hD (by rw [g5]; decide)] at hS; cases hS) }
theorem p1 : passTo G6 0 (List.replicate G6.n false, []) G6.n = ([false, false, false, false, false, true], [5]) := by kernel_rfl
theorem p2 : passTo G6 0 ([false, false, false, false, false, true], [5]) G6.n = ([false, false, false, false, false, true], [5]) := by kernel_rfl
theorem p3 : leastTo G6.n (leftsOf G6 [false, false, false, false, false, true]) [false, false, false, false, false, true] G6.n = 1 := by kernel_rfl
theorem p4 : passTo G6 1 ([false, false, false, false, false, true], [5]) G6.n = ([false, false, false, false, true, true], [5, 4]) := by kernel_rfl
theorem p5 : passTo G6 1 ([false, false, false, false, true, true], [5, 4]) G6.n = ([false, false, false, true, true, true], [5, 4, 3]) := by kernel_rfl
theorem p6 : passTo G6 1 ([false, false, false, true, true, true], [5, 4, 3]) G6.n = ([false, false, false, true, true, true], [5, 4, 3]) := by kernel_rfl
theorem p7 : leastTo G6.n (leftsOf G6 [false, false, false, true, true, true]) [false, false, false, true, true, true] G6.n = 2 := by kernel_rfl
theorem p8 : passTo G6 2 ([false, false, false, true, true, true], [5, 4, 3]) G6.n = ([true, true, true, true, true, true], [5, 4, 3, 0, 1, 2]) := by kernel_rfl
theorem order6 : orderOf G6 = [5, 4, 3, 0, 1, 2] := orderOf_is (by
  refine .took (by decide) (by rw [p1]; decide) ?_
  rw [p1]
  refine .none (by decide) (by rw [p2]) ?_
  rw [p2, p3]
  refine .took (by decide) (by rw [p4]; decide) ?_
  rw [p4]
  refine .took (by decide) (by rw [p5]; decide) ?_
  rw [p5]
  refine .none (by decide) (by rw [p6]) ?_
  rw [p6, p7]
  refine .took (by decide) (by rw [p8]; decide) ?_
  rw [p8]
  exact .done (by decide))
theorem onion6 : onionOf G6 = [4, 4, 4, 3, 2, 1] := by kernel_rfl
theorem tri6 : triOf G6 = 1 := by kernel_rfl
theorem dst6 : thickOf G6 = (2, 4607182418800017408) := by
  unfold thickOf densAt
  rw [cores6]
  kernel_rfl
theorem one_is : (Ieee.Format.order (Go.FloatKind.format Go.FloatKind.f64) 4607182418800017408 4607182418800017408 == Option.some Ordering.eq) = true := by kernel_rfl
theorem first6.is : first6.pre = true ∧ first6.fn = (true, ()) := by
  refine first6.is_fn ?_
  have hM : Make.fn (6 : Int) l6 = (some G6, 0, ()) := by
    unfold Make.fn
    rw [if_pos (by kernel_rfl), if_pos (by kernel_rfl)]
    rfl
  have hn : G6.n ≤ 4096 := by decide
  have hpC : Cores.pre (some G6) = true := show (true && decide (G6.n ≤ 4096)) = true by rw [decide_eq_true hn]; rfl
  have e1 : Cores.fn (some G6) = ([2, 2, 2, 1, 1, 0], ()) := by rw [← cores6]; rfl
  have o := OrderP.is G6_ok hn
  rw [order6] at o
  have n := OnionP.is G6_ok hn
  rw [onion6] at n
  have d := DstP.is G6_ok hn
  rw [dst6] at d
  have t := TriP.is G6_ok hn
  rw [tri6] at t
  unfold first6.run'
  rw [if_pos chap6.is.1, chap6.is.2]
  simp only [Make.pre, hM, (num6.is _).1, (num6.is _).2, bne_self_eq_false, Option.isNone_some, hpC, e1, o.1, o.2, n.1, n.2, d.1, d.2, t.1, t.2, SameIntsH.pre, SameIntsH.fn, eq_self, decide_true, beq_self_eq_true, one_is, if_true, if_false, Bool.false_eq_true]
  rfl
end Go.Proofs.Ythbojpaghbbnnaa.Z
namespace Go.Proofs.Ythbojpaghbbnnaa.Z
open Go Go.RowKit
set_option linter.unusedVariables false
set_option linter.unusedSimpArgs false
theorem nbs_fn (G : Gr) (v : Nat) : Neighbours.pre (some G) (v : Int) = true ∧ Neighbours.fn (some G) (v : Int) = (up (G.nb v), ()) := ⟨rfl, by unfold Neighbours.fn; rw [gr_some, nbz_at]⟩
theorem deg_fn (G : Gr) (v : Nat) : Degree.pre (some G) (v : Int) = true ∧ Degree.fn (some G) (v : Int) = (((G.nb v).length : Int), ()) := ⟨rfl, by unfold Degree.fn; rw [gr_some, if_pos (by omega), Int.toNat_natCast]⟩
theorem n_fn (G : Gr) : N.pre (some G) = true ∧ N.fn (some G) = ((G.n : Int), ()) := ⟨rfl, rfl⟩
theorem cores_fn {G : Gr} (hn : G.n ≤ 4096) : Cores.pre (some G) = true ∧ Cores.fn (some G) = (coresOf G, ()) := ⟨show (true && decide (G.n ≤ 4096)) = true by rw [decide_eq_true hn]; rfl, rfl⟩
theorem greatL.is {l : List Int} (hl : l.length ≤ 1099511627776) : greatL.pre l = true ∧ greatL.fn l = (maxTo 0 l, ()) := by
  have key := greatL.F3_inv (l0 := l) (fun n i => ∃ j : Nat, i = (j : Int) ∧ j ≤ l.length ∧ n = maxTo 0 (l.take j)) (fun _ i => l.length - i.toNat)
    (fun z => z = ((maxTo 0 l, ()), ())) (fun n i hI => by
      obtain ⟨j, rfl, hj, rfl⟩ := hI
      unfold greatL.R3
      refine led_dif (fun q1 => ?_) (fun q1 => led_x ?_)
      · have hjl : j < l.length := by omega
        have hw : IntKind.wrap .i64 ((j : Int) + 1) = (j : Int) + 1 := wr (by omega) (by omega)
        have tk := take_snoc 0 l j hjl
        have a1 : (0 : Int) ≤ (j : Int) := by omega
        simp only [Int.toNat_natCast, hw, a1, q1, if_true]
        exact led_k ⟨_, _, rfl, ⟨j + 1, by omega, by omega, by rw [tk, maxTo_snoc]⟩, by omega⟩
      · rw [List.take_of_length_le (by omega)]) 0 0 ⟨0, rfl, by omega, rfl⟩
  obtain ⟨z, hz, rfl⟩ := key
  refine greatL.is_fn _ ?_
  unfold greatL.run'
  rw [hz]
end Go.Proofs.Ythbojpaghbbnnaa.Z
namespace Go.Proofs.Ythbojpaghbbnnaa.Z
open Go Go.RowKit
set_option linter.unusedVariables false
set_option linter.unusedSimpArgs false
theorem inSet_up (G : Gr) (S : Nat → Bool) (x : Nat) : Hx.inSet S (nbsOf G x) = ((List.range G.n).countP (fun y => S y && G.adj x y) : Int) := by
  unfold Hx.inSet nbsOf up Gr.nb
  rw [List.countP_map, List.countP_filter]
  rfl
theorem count_one {z : Nat} : ∀ {l : List Nat}, l.Nodup → l.countP (fun y => decide (y = z)) ≤ 1
  | [], _ => by simp
  | x :: l, h => by
    obtain ⟨h1, h2⟩ := List.nodup_cons.1 h
    have ih := count_one (z := z) h2
    rw [List.countP_cons]
    by_cases e : x = z
    · have : l.countP (fun y => decide (y = z)) = 0 := by
        rw [List.countP_eq_zero]
        intro y hy
        rw [decide_eq_true_eq]
        rintro rfl
        exact h1 (e ▸ hy)
      rw [this]
      split <;> omega
    · rw [if_neg (by simpa using e)]
      omega
theorem count_most {p q : Nat → Bool} {z : Nat} : ∀ {l : List Nat}, (∀ y ∈ l, p y = true → q y = true ∨ y = z) → l.countP p ≤ l.countP q + l.countP (fun y => decide (y = z))
  | [], _ => by simp
  | x :: l, h => by
    have ih := count_most (p := p) (q := q) (z := z) (l := l) (fun y hy => h y (List.mem_cons_of_mem _ hy))
    have hx := h x (List.mem_cons_self ..)
    rw [List.countP_cons, List.countP_cons, List.countP_cons]
    by_cases hp : p x = true
    · rw [if_pos hp]
      rcases hx hp with e | e
      · rw [if_pos e]
        split <;> omega
      · rw [if_pos (c := decide (x = z) = true) (by simpa using e)]
        split <;> omega
    · rw [if_neg hp]
      split <;> split <;> omega
/-- H has at most one edge more. -/
structure OneMore (G H : Gr) : Prop where
  same : H.n = G.n
  sub : ∀ x y, G.adj x y = true → H.adj x y = true
  more : ∀ x, ∃ z, ∀ y, H.adj x y = true → G.adj x y = true ∨ y = z
theorem OneMore.ge {G H : Gr} (h : OneMore G H) (S : Nat → Bool) (x : Nat) : Hx.inSet S (nbsOf G x) ≤ Hx.inSet S (nbsOf H x) := by
  rw [inSet_up, inSet_up, h.same]
  have : (List.range G.n).countP (fun y => S y && G.adj x y) ≤ (List.range G.n).countP (fun y => S y && H.adj x y) := List.countP_mono_left (fun y _ hy => by
    rw [Bool.and_eq_true] at hy ⊢
    exact ⟨hy.1, h.sub x y hy.2⟩)
  omega
theorem OneMore.le {G H : Gr} (h : OneMore G H) (S : Nat → Bool) (x : Nat) : Hx.inSet S (nbsOf H x) ≤ Hx.inSet S (nbsOf G x) + 1 := by
  rw [inSet_up, inSet_up, h.same]
  obtain ⟨z, hz⟩ := h.more x
  have h1 := count_most (p := fun y => S y && H.adj x y) (q := fun y => S y && G.adj x y) (z := z) (l := List.range G.n) (fun y _ hy => by
    rw [Bool.and_eq_true] at hy
    exact (hz y hy.2).imp (fun q => by rw [Bool.and_eq_true]; exact ⟨hy.1, q⟩) id)
  have h2 := count_one (z := z) (l := List.range G.n) List.nodup_range
  omega
theorem OneMore.cores {G H : Gr} (h : OneMore G H) {a b : List Int} (ha : Hx.IsCores G.n (nbsOf G) a) (hb : Hx.IsCores H.n (nbsOf H) b) {v : Nat} (hv : v < G.n) : a.getD v 0 ≤ b.getD v 0 ∧ b.getD v 0 ≤ a.getD v 0 + 1 := by
  refine ⟨hb.le ?_, ?_⟩
  · obtain ⟨S, h1, h2⟩ := ha.isin v hv
    exact ⟨S, h1, fun u hu => ⟨by rw [h.same]; exact (h2 u hu).1, Int.le_trans (h2 u hu).2 (h.ge S u)⟩⟩
  · have : b.getD v 0 - 1 ≤ a.getD v 0 := ha.le (by
      obtain ⟨S, h1, h2⟩ := hb.isin v (by rw [h.same]; exact hv)
      refine ⟨S, h1, fun u hu => ⟨by rw [← h.same]; exact (h2 u hu).1, ?_⟩⟩
      have h3 := (h2 u hu).2
      have h4 := h.le S u
      omega)
    omega
theorem chg_more {G : Gr} (hG : G.Ok) (u v : Nat) : OneMore G (G.chg (((u : Int), (v : Int)), false)) := by
  refine ⟨rfl, fun x y hxy => ?_, fun x => ⟨if x = u then v else u, fun y hy => ?_⟩⟩
  · rw [chg_adj]
    by_cases k : x ≠ y ∧ (((u : Int) = x ∧ (v : Int) = y) ∨ ((u : Int) = y ∧ (v : Int) = x))
    · exact .inl ⟨k.1, k.2, rfl⟩
    · exact .inr ⟨k, hxy⟩
  · rw [chg_adj] at hy
    rcases hy with ⟨hne, k, _⟩ | ⟨_, k⟩
    · right
      simp only at k
      split <;> omega
    · exact .inl k
namespace PeelEdge
theorem fold_is (x : Int) {n : Nat} (h0 : 0 < n) (hn : n ≤ 120) : ∃ u : Nat, Int.tmod (IntKind.wrap .i64 (Int.tmod x (n : Int) + (n : Int))) (n : Int) = (u : Int) ∧ u < n := by
  have g1 := Int.tmod_lt_of_pos x (show (0 : Int) < (n : Int) by omega)
  have g2 := Int.tmod_lt_of_pos (-x) (show (0 : Int) < (n : Int) by omega)
  rw [Int.neg_tmod] at g2
  have w1 : IntKind.wrap .i64 (Int.tmod x (n : Int) + (n : Int)) = Int.tmod x (n : Int) + (n : Int) := wr (by omega) (by omega)
  rw [w1]
  have t2 := Int.tmod_lt_of_pos (Int.tmod x (n : Int) + (n : Int)) (show (0 : Int) < (n : Int) by omega)
  have t3 := Int.tmod_nonneg (n : Int) (show 0 ≤ Int.tmod x (n : Int) + (n : Int) by omega)
  exact ⟨(Int.tmod (Int.tmod x (n : Int) + (n : Int)) (n : Int)).toNat, by omega, by omega⟩
theorem F17_is {n : Nat} (hn : n ≤ 4096) {a b : List Int} (ha : a.length = n) (hb : b.length = n) (hp : ∀ v, v < n → 0 ≤ a.getD v 0 ∧ a.getD v 0 ≤ 4096) (h : ∀ v, v < n → a.getD v 0 ≤ b.getD v 0 ∧ b.getD v 0 ≤ a.getD v 0 + 1) :
    F17 0 a b = some (Sum.inr ((), ())) := by
  have key := F17_inv (r0 := a) (r1 := b) (fun i => ∃ j : Nat, i = (j : Int) ∧ j ≤ n) (fun i => n - i.toNat)
    (fun z => z = Sum.inr ((), ())) (fun i hI => by
      obtain ⟨j, rfl, hj⟩ := hI
      unfold R17
      refine led_dif (fun q1 => ?_) (fun q1 => led_x rfl)
      have hjn : j < n := by omega
      have hw : IntKind.wrap .i64 ((j : Int) + 1) = (j : Int) + 1 := wr (by omega) (by omega)
      have h1 := h j hjn
      have h2 := hp j hjn
      have hw2 : IntKind.wrap .i64 (a.getD j 0 + 1) = a.getD j 0 + 1 := wr (by omega) (by omega)
      have a1 : (0 : Int) ≤ (j : Int) := by omega
      have a2 : (j : Int) < (b.length : Int) := by omega
      have b1 : ¬ b.getD j 0 < a.getD j 0 := by omega
      have b2 : ¬ b.getD j 0 > a.getD j 0 + 1 := by omega
      simp only [Int.toNat_natCast, hw, hw2, a1, a2, q1, b1, b2, decide_false, Bool.false_eq_true, if_true, if_false]
      exact led_k ⟨_, rfl, ⟨j + 1, by omega, by omega⟩, by omega⟩) 0 ⟨0, rfl, by omega⟩
  obtain ⟨z, hz, rfl⟩ := key
  exact hz
theorem holds (n : Int) (l : List (Int × Int)) (u v : Int) (w0 : (Lit.int .i64 n).wf = true) (w1 : l.length ≤ maxLen ∧ ∀ x ∈ l, (Lit.int .i64 x.1).wf = true ∧ (Lit.int .i64 x.2).wf = true) (w2 : (Lit.int .i64 u).wf = true) (w3 : (Lit.int .i64 v).wf = true) : pre n l u v = true ∧ fn n l u v = (true, ()) := by
  refine is_fn _ _ _ _ ?_
  unfold run'
  obtain ⟨G, hG, hn, hp, hf⟩ := made6.is n l
  have hn2 : G.n ≤ 4096 := by omega
  have hl := coresOf_len hG hn2
  by_cases h0 : G.n = 0
  · have hb : ((G.n : Int) == 0) = true := by rw [h0]; rfl
    have hb2 : (((coresOf G).length : Int) == 0) = true := by rw [hl, h0]; rfl
    simp only [first6.is.1, first6.is.2, hp, hf, Bool.not_true, Option.isNone_some, (cores_fn hn2).1, (cores_fn hn2).2, (n_fn G).1, (n_fn G).2, hb, hb2, if_true, if_false, Bool.false_eq_true]
  · have hb : ¬ ((G.n : Int) == 0) = true := by rw [beq_iff_eq]; omega
    have hb3 : ¬ (G.n : Int) = 0 := by omega
    obtain ⟨x, hx, hxn⟩ := fold_is u (show 0 < G.n by omega) hn
    obtain ⟨y, hy, hyn⟩ := fold_is v (show 0 < G.n by omega) hn
    obtain ⟨H, hH⟩ : ∃ H, H = G.chg (((x : Int), (y : Int)), false) := ⟨_, rfl⟩
    have hok : okP G.n ((x : Int), (y : Int)) = true := okP_iff.2 ⟨⟨by omega, by omega⟩, by omega, by omega⟩
    have hC : Changed.fn (some G) [((x : Int), (y : Int), false)] = (some H, 0, ()) := by
      unfold Changed.fn
      rw [gr_some, if_pos (show chgOk G [((x : Int), (y : Int), false)] = true by unfold chgOk; simp only [List.all_cons, List.all_nil, Bool.and_true]; exact hok), hH]
      rfl
    have hCp : Changed.pre (some G) [((x : Int), (y : Int), false)] = true := rfl
    have hHn : H.n = G.n := by rw [hH]; rfl
    have hHok : H.Ok := by
      have := changed_ok hG (cs := [(((x : Int), (y : Int)), false)]) (fun c hc => by
        obtain rfl := List.mem_singleton.1 hc
        exact hok)
      rw [hH]
      exact this
    have hm : OneMore G H := by rw [hH]; exact chg_more hG x y
    have hlH := coresOf_len hHok (show H.n ≤ 4096 by omega)
    have cs := fun v (hv : v < G.n) => hm.cores (coresOf_ok hG (show G.n ≤ 16777216 by omega)) (coresOf_ok hHok (show H.n ≤ 16777216 by omega)) hv
    have hF := F17_is hn2 hl (by rw [hlH, hHn]) (fun v hv => by
      obtain ⟨q, c1, c2, c3⟩ := coresOf_at hG hn2 hv
      omega) cs
    have hlHG : (coresOf H).length = G.n := by rw [hlH, hHn]
    simp only [first6.is.1, first6.is.2, hp, hf, Bool.not_true, Option.isNone_some, (cores_fn hn2).1, (cores_fn hn2).2, (n_fn G).1, (n_fn G).2, hb, hb3, hx, hy, hC, hCp, (num6.is _).1, (num6.is _).2, (cores_fn (show H.n ≤ 4096 by omega)).1, (cores_fn (show H.n ≤ 4096 by omega)).2, hl, hlHG, bne_self_eq_false, hF, if_true, if_false, Bool.false_eq_true]
end PeelEdge
end Go.Proofs.Ythbojpaghbbnnaa.Z
namespace Go.Proofs.Ythbojpaghbbnnaa.Z
open Go Go.RowKit
set_option linter.unusedVariables false
set_option linter.unusedSimpArgs false
/-- A permutation of the numbers below n. -/
structure IsPerm (n : Nat) (l : List Int) : Prop where
  len : l.length = n
  rng : ∀ i, i < n → 0 ≤ l.getD i 0 ∧ l.getD i 0 < n
  inj : ∀ i j, i < n → j < n → l.getD i 0 = l.getD j 0 → i = j
theorem IsPerm.surj {n : Nat} {l : List Int} (h : IsPerm n l) {v : Nat} (hv : v < n) : ∃ i, i < n ∧ l.getD i 0 = (v : Int) := by
  by_cases hex : ∃ i, i < n ∧ l.getD i 0 = (v : Int)
  · exact hex
  · exfalso
    have hnd : ((List.range n).map (fun i => (l.getD i 0).toNat)).Nodup := by
      unfold List.Nodup
      rw [List.pairwise_map]
      refine List.Pairwise.imp_of_mem ?_ List.pairwise_lt_range
      intro a b ha hb hab e
      rw [List.mem_range] at ha hb
      have h1 := h.rng a ha
      have h2 := h.rng b hb
      have := h.inj a b ha hb (by omega)
      omega
    have hni : v ∉ (List.range n).map (fun i => (l.getD i 0).toNat) := fun hm => by
      obtain ⟨i, hi, e⟩ := List.mem_map.1 hm
      rw [List.mem_range] at hi
      have := h.rng i hi
      exact hex ⟨i, hi, by omega⟩
    have hsub : (v :: (List.range n).map (fun i => (l.getD i 0).toNat)) ⊆ List.range n := fun x hx => by
      rw [List.mem_range]
      rcases List.mem_cons.1 hx with rfl | hx
      · exact hv
      · obtain ⟨i, hi, e⟩ := List.mem_map.1 hx
        rw [List.mem_range] at hi
        have := h.rng i hi
        omega
    have := (List.nodup_cons.2 ⟨hni, hnd⟩).length_le_of_subset hsub
    rw [List.length_cons, List.length_map, List.length_range] at this
    omega
theorem IsPerm.swap {n : Nat} {l : List Int} (h : IsPerm n l) {i k : Nat} (hi : i < n) (hk : k < n) : IsPerm n ((l.set i (l.getD k 0)).set k (l.getD i 0)) := by
  have hl := h.len
  have g : ∀ x, x < n → ((l.set i (l.getD k 0)).set k (l.getD i 0)).getD x 0 = l.getD (if k = x then i else if i = x then k else x) 0 := fun x hx => by
    rw [Hx.getD_set, Hx.getD_set, List.length_set]
    by_cases e1 : k = x
    · rw [if_pos ⟨e1, by omega⟩, if_pos e1]
    · rw [if_neg (fun q => e1 q.1), if_neg e1]
      by_cases e2 : i = x
      · rw [if_pos ⟨e2, by omega⟩, if_pos e2]
      · rw [if_neg (fun q => e2 q.1), if_neg e2]
  refine ⟨by rw [List.length_set, List.length_set]; exact hl, fun x hx => ?_, fun x y hx hy e => ?_⟩
  · rw [g x hx]
    exact h.rng _ (by split; exact hi; split; exact hk; exact hx)
  · rw [g x hx, g y hy] at e
    have := h.inj _ _ (by split; exact hi; split; exact hk; exact hx) (by split; exact hi; split; exact hk; exact hy) e
    split at this <;> split at this <;> (try split at this) <;> (try split at this) <;> omega
/-- The places of a permutation. -/
structure Places (n : Nat) (l at' : List Int) : Prop where
  len : at'.length = n
  at_ : ∀ i, i < n → at'.getD (l.getD i 0).toNat 0 = (i : Int)
theorem Places.of {n : Nat} {l at' : List Int} (h : IsPerm n l) (p : Places n l at') {v : Nat} (hv : v < n) : ∃ i, i < n ∧ l.getD i 0 = (v : Int) ∧ at'.getD v 0 = (i : Int) := by
  obtain ⟨i, h1, h2⟩ := h.surj hv
  have := p.at_ i h1
  rw [h2, Int.toNat_natCast] at this
  exact ⟨i, h1, h2, this⟩
namespace placesP
theorem F6_is {n : Nat} (hn : n ≤ 4096) (l : List Int) : ∃ r, F6 l (n : Int) (n : Int) 0 (List.replicate n 0) = some ((l, (n : Int), ()), (r, ())) ∧ r.length = n ∧ ∀ v, v < n → r.getD v 0 = -1 := by
  have key := F6_inv (order1 := l) (n6 := (n : Int)) (t20 := (n : Int)) (fun t r => ∃ j : Nat, t = (j : Int) ∧ j ≤ n ∧ r.length = n ∧ ∀ v, v < j → r.getD v 0 = -1) (fun t _ => n - t.toNat)
    (fun z => ∃ r, z = ((l, (n : Int), ()), (r, ())) ∧ r.length = n ∧ ∀ v, v < n → r.getD v 0 = -1) (fun t r hI => by
      obtain ⟨j, rfl, hj, hr, hx⟩ := hI
      unfold R6
      refine led_dif (fun q1 => ?_) (fun q1 => led_x ⟨r, rfl, hr, fun v hv => hx v (by omega)⟩)
      have hw : IntKind.wrap .i64 ((j : Int) + 1) = (j : Int) + 1 := wr (by omega) (by omega)
      have a1 : (0 : Int) ≤ (j : Int) := by omega
      have a2 : (j : Int) < (r.length : Int) := by omega
      have a3 : j < r.length := by omega
      simp only [Int.toNat_natCast, hw, a1, a2, a3, if_true]
      refine led_k ⟨_, _, rfl, ⟨j + 1, by omega, by omega, by rw [List.length_set]; exact hr, fun v hv => ?_⟩, by omega⟩
      rw [Hx.getD_set]
      by_cases e : j = v
      · rw [if_pos ⟨e, a3⟩]
      · rw [if_neg (fun q => e q.1)]
        exact hx v (by omega)) 0 (List.replicate n 0) ⟨0, rfl, by omega, by simp, fun v hv => by omega⟩
  obtain ⟨z, hz, r, rfl, h⟩ := key
  exact ⟨r, hz, h⟩
theorem F11_is {n : Nat} (hn : n ≤ 4096) {l : List Int} (hp : IsPerm n l) {r0 : List Int} (h0 : r0.length = n) (hr0 : ∀ v, v < n → r0.getD v 0 = -1) :
    ∃ r, F11 (n : Int) l (l.length : Int) 0 r0 = some (Sum.inr ((), (r, ()))) ∧ Places n l r := by
  have hl := hp.len
  have key := F11_inv (n6 := (n : Int)) (t28 := l) (t29 := (l.length : Int)) (fun t r => ∃ j : Nat, t = (j : Int) ∧ j ≤ n ∧ r.length = n ∧ (∀ i, i < j → r.getD (l.getD i 0).toNat 0 = (i : Int)) ∧ ∀ v, v < n → (∀ i, i < j → l.getD i 0 ≠ (v : Int)) → r.getD v 0 = -1) (fun t _ => n - t.toNat)
    (fun z => ∃ r, z = Sum.inr ((), (r, ())) ∧ Places n l r) (fun t r hI => by
      obtain ⟨j, rfl, hj, hr, hx, hy⟩ := hI
      unfold R11
      refine led_dif (fun q1 => ?_) (fun q1 => led_x ⟨r, rfl, hr, fun i hi => hx i (by omega)⟩)
      have hjn : j < n := by omega
      obtain ⟨x, hxe⟩ : ∃ x : Nat, l.getD j 0 = (x : Int) := ⟨(l.getD j 0).toNat, by have := (hp.rng j hjn).1; omega⟩
      have hxn : x < n := by have := (hp.rng j hjn).2; omega
      have hneg := hy x hxn (fun i hi e => by
        have := hp.inj i j (by omega) hjn (by rw [e, hxe])
        omega)
      have hw : IntKind.wrap .i64 ((j : Int) + 1) = (j : Int) + 1 := wr (by omega) (by omega)
      have a1 : (0 : Int) ≤ (j : Int) := by omega
      have a2 : (x : Int) < (r.length : Int) := by omega
      have a3 : x < r.length := by omega
      have a4 : (0 : Int) ≤ (x : Int) := by omega
      have b1 : ¬ (x : Int) < 0 := by omega
      have b2 : ¬ (x : Int) ≥ (n : Int) := by omega
      have b3 : ¬ (-1 : Int) ≥ 0 := by omega
      simp only [Int.toNat_natCast, hxe, hneg, hw, a1, a2, a3, a4, b1, b2, b3, q1, decide_false, Bool.false_eq_true, if_true, if_false]
      refine led_k ⟨_, _, rfl, ⟨j + 1, by omega, by omega, by rw [List.length_set]; exact hr, fun i hi => ?_, fun v hv hne => ?_⟩, by omega⟩
      · rw [Hx.getD_set]
        by_cases e : i = j
        · subst e
          rw [hxe, Int.toNat_natCast, if_pos ⟨rfl, a3⟩]
        · rw [if_neg (fun q => ?_)]
          · exact hx i (by omega)
          · have h1 := hp.rng i (by omega)
            have := hp.inj i j (by omega) hjn (by rw [hxe]; omega)
            omega
      · rw [Hx.getD_set, if_neg (fun q => ?_)]
        · exact hy v hv (fun i hi => hne i (by omega))
        · have := hne j (by omega)
          rw [hxe] at this
          omega) 0 r0 ⟨0, rfl, by omega, h0, fun i hi => by omega, fun v hv _ => hr0 v hv⟩
  obtain ⟨z, hz, r, rfl, h⟩ := key
  exact ⟨r, hz, h⟩
theorem is {G : Gr} (hn : G.n ≤ 4096) {l : List Int} (hp : IsPerm G.n l) : ∃ r, (pre (some G) l = true ∧ fn (some G) l = (r, 0, ())) ∧ Places G.n l r := by
  obtain ⟨r0, e0, l0, x0⟩ := F6_is hn l
  obtain ⟨r, e1, h⟩ := F11_is hn hp l0 x0
  have hl := hp.len
  refine ⟨r, is_fn _ _ ?_, h⟩
  unfold run'
  have a1 : (0 : Int) ≤ (G.n : Int) := by omega
  have room : G.n * 8 ≤ 140737488355328 := by omega
  have hrl : (List.replicate G.n (0 : Int)).length = G.n := by simp
  rw [hl] at e1
  simp only [N.pre, N.fn, gr_some, Option.isSome_some, hl, bne_self_eq_false, Bool.false_eq_true, Int.toNat_natCast, a1, room, hrl, e0, e1, if_true, if_false]
end placesP
/-- How many neighbours stand behind v. -/
def laterN (G : Gr) (at' : List Int) (v : Nat) : Nat := (G.nb v).countP (fun u => decide (at'.getD u 0 > at'.getD v 0))
namespace shufL
theorem is {n : Nat} (hn : n ≤ 120) (order : List Int) : ∃ l, (pre (n : Int) order = true ∧ fn (n : Int) order = (l, ())) ∧ IsPerm n l := by
  have key1 := F3_inv (n0 := (n : Int)) (order1 := order) (fun i r => ∃ j : Nat, i = (j : Int) ∧ j ≤ n ∧ r = up (List.range j)) (fun i _ => n - i.toNat)
    (fun z => z = (((n : Int), order, ()), (up (List.range n), ()))) (fun i r hI => by
      obtain ⟨j, rfl, hj, rfl⟩ := hI
      unfold R3
      refine led_dif (fun q1 => ?_) (fun q1 => led_x ?_)
      · have hw : IntKind.wrap .i64 ((j : Int) + 1) = (j : Int) + 1 := wr (by omega) (by omega)
        have room : ((up (List.range j)).length + [(j : Int)].length) * 8 ≤ 140737488355328 := by rw [up_length, List.length_range, List.length_singleton]; omega
        simp only [hw, room, if_true]
        exact led_k ⟨_, _, rfl, ⟨j + 1, by omega, by omega, by rw [List.range_succ, up_snoc]⟩, by omega⟩
      · obtain rfl : j = n := by omega
        rfl) 0 [] ⟨0, rfl, by omega, rfl⟩
  obtain ⟨z1, hz1, rfl⟩ := key1
  have p0 : IsPerm n (up (List.range n)) := by
    have g : ∀ i, i < n → (up (List.range n)).getD i 0 = (i : Int) := fun i hi => range_map_at 0 _ hi
    refine ⟨by rw [up_length, List.length_range], fun i hi => by rw [g i hi]; omega, fun i j hi hj e => ?_⟩
    rw [g i hi, g j hj] at e
    omega
  have key2 := F7_inv (n0 := (n : Int)) (order1 := order) (fun i r => ∃ j : Nat, i = (j : Int) ∧ j ≤ n ∧ IsPerm n r) (fun i _ => n - i.toNat)
    (fun z => ∃ r, z = ((), (r, ())) ∧ IsPerm n r) (fun i r hI => by
      obtain ⟨j, rfl, hj, hp⟩ := hI
      have hl := hp.len
      unfold R7
      refine led_dif (fun q1 => ?_) (fun q1 => led_x ⟨r, rfl, hp⟩)
      refine led_dif (fun q2 => ?_) (fun q2 => led_x ⟨r, rfl, hp⟩)
      have hjn : j < n := by omega
      obtain ⟨k, hk, hkn⟩ := PeelEdge.fold_is (order.getD j 0) (show 0 < n by omega) hn
      have hw : IntKind.wrap .i64 ((j : Int) + 1) = (j : Int) + 1 := wr (by omega) (by omega)
      have a0 : ¬ (n : Int) = 0 := by omega
      have a1 : (0 : Int) ≤ (j : Int) := by omega
      have a2 : (j : Int) < (r.length : Int) := by omega
      have a3 : j < r.length := by omega
      have a4 : (0 : Int) ≤ (k : Int) := by omega
      have a5 : (k : Int) < (r.length : Int) := by omega
      have a6 : k < r.length := by omega
      simp only [Int.toNat_natCast, hk, List.length_set, hw, a0, a1, a2, a3, a4, a5, a6, q2, if_true, if_false]
      exact led_k ⟨_, _, rfl, ⟨j + 1, by omega, by omega, hp.swap hjn hkn⟩, by omega⟩) 0 (up (List.range n)) ⟨0, rfl, by omega, p0⟩
  obtain ⟨z2, hz2, r, rfl, hp⟩ := key2
  refine ⟨r, is_fn _ _ ?_, hp⟩
  unfold run'
  rw [hz1]
  simp only [hz2]
end shufL
theorem core_le_here {G : Gr} {c : List Int} (hc : Hx.IsCores G.n (nbsOf G) c) {g : List Bool} {k : Int} (lo : ∀ v, v < G.n → g.getD v false = true → c.getD v 0 ≤ k) {v : Nat} (hv : v < G.n) (hk : Hx.inSet (Hx.here g) (nbsOf G v) ≤ k) : c.getD v 0 ≤ k := by
  rcases Int.lt_or_le k (c.getD v 0) with q | q
  · exfalso
    obtain ⟨S, h1, h2⟩ := Hx.InCore.mono (hc.isin v hv) (show k + 1 ≤ c.getD v 0 by omega)
    have h3 := (h2 v h1).2
    have h4 := Hx.inSet_mono (S := S) (S' := Hx.here g) (l := nbsOf G v) (fun x _ hs => by
      have h5 := (h2 _ hs).1
      have h6 := hc.le (k := k + 1) (v := x.toNat) ⟨S, hs, h2⟩
      show (!g.getD x.toNat false) = true
      cases hb : g.getD x.toNat false with
      | false => rfl
      | true =>
        have := lo _ h5 hb
        omega)
    omega
  · exact q
theorem least_le_core {G : Gr} (hG : G.Ok) {c : List Int} (hc : Hx.IsCores G.n (nbsOf G) c) {g : List Bool} {v : Nat} (hv : v < G.n) (hg : g.getD v false = false) : leastTo G.n (leftsOf G g) g G.n ≤ c.getD v 0 := by
  refine hc.le ⟨fun x => decide (x < G.n) && Hx.here g x, by rw [Bool.and_eq_true]; exact ⟨decide_eq_true hv, by unfold Hx.here; rw [hg]; rfl⟩, fun u hu => ?_⟩
  rw [Bool.and_eq_true, decide_eq_true_eq] at hu
  refine ⟨hu.1, ?_⟩
  have h1 : g.getD u false = false := by
    have := hu.2
    unfold Hx.here at this
    simpa using this
  have h2 := leastTo_le (n := G.n) (left := leftsOf G g) (gone := g) (j := G.n) hu.1 h1
  rw [leftsOf_at hu.1] at h2
  refine Int.le_trans h2 (Hx.inSet_mono (fun x hx hs => ?_))
  have h3 := (nbs_G hG).rng u hu.1 x hx
  rw [Bool.and_eq_true, decide_eq_true_eq]
  exact ⟨by omega, hs⟩
structure OInv (G : Gr) (c : List Int) (s : List Bool × List Int) (k : Int) : Prop where
  len : s.1.length = G.n
  mem : ∀ v, v < G.n → (s.1.getD v false = true ↔ (v : Int) ∈ s.2)
  rng : ∀ x ∈ s.2, 0 ≤ x ∧ x < G.n
  nodup : s.2.Nodup
  lo : ∀ v, v < G.n → s.1.getD v false = true → c.getD v 0 ≤ k
  hi : ∀ v, v < G.n → s.1.getD v false = false → k ≤ c.getD v 0
  srt : s.2.Pairwise (fun x y => c.getD x.toNat 0 ≤ c.getD y.toNat 0)
  late : ∀ i, i < s.2.length → Hx.inSet (fun u => decide ((u : Int) ∉ s.2.take (i + 1))) (nbsOf G (s.2.getD i 0).toNat) ≤ c.getD (s.2.getD i 0).toNat 0
theorem OInv.go {G : Gr} (hG : G.Ok) {c : List Int} (hc : Hx.IsCores G.n (nbsOf G) c) {s : List Bool × List Int} {k : Int} (h : OInv G c s k) {u : Nat} (hu : u < G.n) : OInv G c (goOne G k s u) k := by
  unfold goOne
  split
  · rename_i q
    have hcu : c.getD u 0 = k := by
      have h1 := core_le_here hc h.lo hu q.2
      have h2 := h.hi u hu q.1
      omega
    have hnu : (u : Int) ∉ s.2 := fun hm => by
      have := (h.mem u hu).2 hm
      rw [q.1] at this
      cases this
    have gset : ∀ v, (s.1.set u true).getD v false = if u = v then true else s.1.getD v false := fun v => by
      rw [Hx.getD_setG]
      by_cases e : u = v
      · rw [if_pos ⟨e, by rw [h.len]; exact hu⟩, if_pos e]
      · rw [if_neg (fun q => e q.1), if_neg e]
    refine ⟨by rw [List.length_set]; exact h.len, fun v hv => ?_, fun x hx => ?_, ?_, fun v hv hb => ?_, fun v hv hb => ?_, ?_, fun i hi => ?_⟩
    · simp only
      rw [gset, List.mem_append, List.mem_singleton]
      by_cases e : u = v
      · rw [if_pos e]
        exact ⟨fun _ => .inr (by omega), fun _ => rfl⟩
      · rw [if_neg e, h.mem v hv]
        exact ⟨.inl, fun q => q.elim id (fun q => absurd q (by omega))⟩
    · rcases List.mem_append.1 hx with hx | hx
      · exact h.rng x hx
      · obtain rfl := List.mem_singleton.1 hx
        omega
    · exact List.nodup_append.2 ⟨h.nodup, by simp, fun a ha b hb => by
        obtain rfl := List.mem_singleton.1 hb
        rintro rfl
        exact hnu ha⟩
    · simp only at hb
      rw [gset] at hb
      by_cases e : u = v
      · rw [← e, hcu]
        exact Int.le_refl _
      · rw [if_neg e] at hb
        exact h.lo v hv hb
    · simp only at hb
      rw [gset] at hb
      by_cases e : u = v
      · rw [if_pos e] at hb
        cases hb
      · rw [if_neg e] at hb
        exact h.hi v hv hb
    · refine List.pairwise_append.2 ⟨h.srt, by simp, fun a ha b hb => ?_⟩
      obtain rfl := List.mem_singleton.1 hb
      rw [Int.toNat_natCast, hcu]
      have hr := h.rng a ha
      refine h.lo _ (by omega) ((h.mem _ (by omega)).2 ?_)
      rw [show ((a.toNat : Nat) : Int) = a by omega]
      exact ha
    · simp only [List.length_append, List.length_singleton] at hi
      rcases Nat.lt_or_ge i s.2.length with q2 | q2
      · have e1 : (s.2 ++ [(u : Int)]).getD i 0 = s.2.getD i 0 := by
          rw [List.getD_eq_getElem?_getD, List.getElem?_append_left q2, ← List.getD_eq_getElem?_getD]
        have e2 : (s.2 ++ [(u : Int)]).take (i + 1) = s.2.take (i + 1) := List.take_append_of_le_length (by omega)
        simp only
        rw [e1, e2]
        exact h.late i q2
      · have hi2 : i = s.2.length := by omega
        have e1 : (s.2 ++ [(u : Int)]).getD i 0 = (u : Int) := by
          rw [hi2, List.getD_eq_getElem?_getD, List.getElem?_append_right (Nat.le_refl _)]
          simp
        have e2 : (s.2 ++ [(u : Int)]).take (i + 1) = s.2 ++ [(u : Int)] := List.take_of_length_le (by rw [List.length_append, List.length_singleton]; omega)
        simp only
        rw [e1, e2, Int.toNat_natCast, hcu]
        refine Int.le_trans (Hx.inSet_mono (fun x hx hs => ?_)) q.2
        have hr := (nbs_G hG).rng u hu x hx
        rw [decide_eq_true_eq, List.mem_append] at hs
        show (!s.1.getD x.toNat false) = true
        cases hb : s.1.getD x.toNat false with
        | false => rfl
        | true => exact absurd (.inl ((h.mem _ (by omega)).1 hb)) hs
  · exact h
theorem OInv.pass {G : Gr} (hG : G.Ok) {c : List Int} (hc : Hx.IsCores G.n (nbsOf G) c) {s : List Bool × List Int} {k : Int} (h : OInv G c s k) : ∀ {j : Nat}, j ≤ G.n → OInv G c (passTo G k s j) k
  | 0, _ => h
  | j + 1, hj => by
    rw [passTo_succ]
    exact (OInv.pass hG hc h (j := j) (by omega)).go hG hc (by omega)
theorem OInv.count {G : Gr} {c : List Int} {s : List Bool × List Int} {k : Int} (h : OInv G c s k) : s.2.length ≤ G.n := by
  have hnd : (s.2.map Int.toNat).Nodup := by
    unfold List.Nodup
    rw [List.pairwise_map]
    refine List.Pairwise.imp_of_mem ?_ h.nodup
    intro a b ha hb hab e
    have h1 := h.rng a ha
    have h2 := h.rng b hb
    exact hab (by omega)
  have := hnd.length_le_of_subset (l₂ := List.range G.n) (fun x hx => by
    obtain ⟨a, ha, rfl⟩ := List.mem_map.1 hx
    have := h.rng a ha
    rw [List.mem_range]
    omega)
  rw [List.length_map, List.length_range] at this
  exact this
structure Behind (G : Gr) (c r : List Int) : Prop where
  perm : IsPerm G.n r
  srt : r.Pairwise (fun x y => c.getD x.toNat 0 ≤ c.getD y.toNat 0)
  late : ∀ i, i < r.length → Hx.inSet (fun u => decide ((u : Int) ∉ r.take (i + 1))) (nbsOf G (r.getD i 0).toNat) ≤ c.getD (r.getD i 0).toNat 0
theorem OInv.raise {G : Gr} (hG : G.Ok) {c : List Int} (hc : Hx.IsCores G.n (nbsOf G) c) {s : List Bool × List Int} {k : Int} (h : OInv G c s k) (hE : Even G s) (hlt : s.2.length < G.n) (hnone : (passTo G k s G.n).2.length = s.2.length) : OInv G c s (leastTo G.n (leftsOf G s.1) s.1 G.n) := by
  obtain ⟨u, u1, u2, u3⟩ := least_at hG hE.1 (by rw [hE.2]; exact hlt)
  have hk : k < leastTo G.n (leftsOf G s.1) s.1 G.n := by
    rcases Int.lt_or_le k (leastTo G.n (leftsOf G s.1) s.1 G.n) with q | q
    · exact q
    · exact absurd hnone (pass_takes u1 u2 (by omega))
  exact ⟨h.len, h.mem, h.rng, h.nodup, fun v hv hb => by have := h.lo v hv hb; omega, fun v hv hb => least_le_core hG hc hv hb, h.srt, h.late⟩
theorem Run.behind {G : Gr} (hG : G.Ok) {c : List Int} (hc : Hx.IsCores G.n (nbsOf G) c) {s : List Bool × List Int} {k : Int} {r : List Int} (hR : Run G s k r) : Even G s → OInv G c s k → Behind G c r := by
  induction hR with
  | done h1 =>
    rename_i s k
    intro hE h
    have hl : s.2.length = G.n := by have := h.count; omega
    refine ⟨⟨hl, fun i hi => h.rng _ (mem_getD 0 _ i (by omega)), fun i j hi hj e => ?_⟩, h.srt, h.late⟩
    have hp := h.nodup
    rw [List.getD_eq_getElem?_getD, List.getD_eq_getElem?_getD, List.getElem?_eq_getElem (show i < s.2.length by omega), List.getElem?_eq_getElem (show j < s.2.length by omega)] at e
    have e' : s.2[i]'(by omega) = s.2[j]'(by omega) := e
    have hpi := List.pairwise_iff_getElem.1 hp
    rcases Nat.lt_trichotomy i j with q | q | q
    · exact absurd e' (hpi i j (by omega) (by omega) q)
    · exact q
    · exact absurd e'.symm (hpi j i (by omega) (by omega) q)
  | took h1 h2 h3 ih =>
    intro hE h
    exact ih (hE.pass (Nat.le_refl _)) (h.pass hG hc (Nat.le_refl _))
  | none h1 h2 h3 ih =>
    rename_i s k r
    intro hE h
    have e := (passTo_len G k s G.n).2 h2
    rw [e] at ih
    exact ih hE (h.raise hG hc hE h1 h2)
theorem order_behind {G : Gr} (hG : G.Ok) (hn : G.n ≤ 4096) : Behind G (coresOf G) (orderOf G) := by
  have hc := coresOf_ok hG (show G.n ≤ 16777216 by omega)
  obtain ⟨r, hr⟩ := run_ex hG _ _ 0 (even0 G) (Nat.le_refl _)
  rw [orderOf_is hr]
  refine hr.behind hG hc (even0 G) ⟨by simp, fun v hv => ?_, fun x hx => (by cases hx), List.nodup_nil, fun v hv hb => ?_, fun v hv _ => hc.nonneg v hv, List.Pairwise.nil, fun i hi => by simp at hi⟩
  · simp only
    rw [Hx.getD_rep]
    exact ⟨fun h => (by cases h), fun h => (by cases h)⟩
  · simp only at hb
    rw [Hx.getD_rep] at hb
    cases hb
theorem later_le {G : Gr} (hG : G.Ok) {c r at' : List Int} (h : Behind G c r) (p : Places G.n r at') {v : Nat} (hv : v < G.n) : (laterN G at' v : Int) ≤ c.getD v 0 := by
  obtain ⟨i, h1, h2, h3⟩ := p.of h.perm hv
  have hl := h.perm.len
  have := h.late i (by omega)
  rw [h2, Int.toNat_natCast] at this
  refine Int.le_trans ?_ this
  unfold laterN Hx.inSet nbsOf up
  rw [List.countP_map]
  refine Int.ofNat_le.2 (List.countP_mono_left (fun u hu hb => ?_))
  rw [decide_eq_true_eq] at hb
  show decide (((u : Int).toNat : Int) ∉ r.take (i + 1)) = true
  rw [Int.toNat_natCast, decide_eq_true_eq]
  intro hm
  obtain ⟨j, hj, e⟩ := List.getElem_of_mem hm
  rw [List.length_take] at hj
  rw [List.getElem_take] at e
  have hg : r.getD j 0 = (u : Int) := by
    rw [List.getD_eq_getElem?_getD, List.getElem?_eq_getElem (show j < r.length by omega)]
    exact e
  have := p.at_ j (by omega)
  rw [hg, Int.toNat_natCast] at this
  omega
structure NInv (G : Gr) (c : List Int) (g : List Bool) (k rd : Int) (o : List Int) : Prop where
  glen : g.length = G.n
  olen : o.length = G.n
  lo : ∀ v, v < G.n → g.getD v false = true → c.getD v 0 ≤ k
  hi : ∀ v, v < G.n → g.getD v false = false → k ≤ c.getD v 0
  old : ∀ v, v < G.n → g.getD v false = true → o.getD v 0 < rd
  ups : ∀ u v, u < G.n → v < G.n → g.getD u false = true → g.getD v false = true → (o.getD u 0 < o.getD v 0 → c.getD u 0 ≤ c.getD v 0) ∧ (o.getD u 0 = o.getD v 0 → c.getD u 0 = c.getD v 0)
theorem NInv.step {G : Gr} (hG : G.Ok) {c : List Int} (hc : Hx.IsCores G.n (nbsOf G) c) {g : List Bool} {k rd : Int} {o : List Int} (h : NInv G c g k rd o) : NInv G c (wipe (nowTo G (kOf G g k) g G.n) g) (kOf G g k) (rd + 1) (mark (nowTo G (kOf G g k) g G.n) rd o) := by
  have hk : k ≤ kOf G g k := by unfold kOf; omega
  obtain ⟨l, hl⟩ : ∃ l, l = nowTo G (kOf G g k) g G.n := ⟨_, rfl⟩
  have hm : ∀ u, u ∈ l ↔ u < G.n ∧ g.getD u false = false ∧ Hx.inSet (Hx.here g) (nbsOf G u) ≤ kOf G g k := fun u => by rw [hl]; exact mem_now
  rw [← hl]
  have hck : ∀ u, u ∈ l → c.getD u 0 = kOf G g k := fun u hu => by
    obtain ⟨h1, h2, h3⟩ := (hm u).1 hu
    have a1 := core_le_here hc (fun v hv hb => Int.le_trans (h.lo v hv hb) hk) h1 h3
    have a2 := h.hi u h1 h2
    have a3 := least_le_core hG hc h1 h2
    unfold kOf at a1 ⊢
    omega
  have gone' : ∀ v, v < G.n → (wipe l g).getD v false = true → v ∈ l ∨ (v ∉ l ∧ g.getD v false = true) := fun v hv hb => by
    by_cases e : v ∈ l
    · exact .inl e
    · rw [wipe_at _ _ _ e] at hb
      exact .inr ⟨e, hb⟩
  have onew : ∀ v, v < G.n → v ∈ l → (mark l rd o).getD v 0 = rd := fun v hv e => mark_in _ _ _ _ (by rw [h.olen]; exact hv) (.inl e)
  refine ⟨by rw [wipe_len]; exact h.glen, by rw [mark_len]; exact h.olen, fun v hv hb => ?_, fun v hv hb => ?_, fun v hv hb => ?_, fun u v hu hv hbu hbv => ?_⟩
  · rcases gone' v hv hb with e | ⟨e, hb⟩
    · rw [hck v e]; exact Int.le_refl _
    · exact Int.le_trans (h.lo v hv hb) hk
  · have hg : g.getD v false = false := by
      cases hb2 : g.getD v false with
      | false => rfl
      | true =>
        rw [wipe_in _ _ _ (by rw [h.glen]; exact hv) (.inr hb2)] at hb
        cases hb
    have a2 := h.hi v hv hg
    have a3 := least_le_core hG hc hv hg
    unfold kOf
    omega
  · rcases gone' v hv hb with e | ⟨e, hb⟩
    · rw [onew v hv e]; omega
    · rw [mark_at _ _ _ _ e]
      have := h.old v hv hb
      omega
  · rcases gone' u hu hbu with e1 | ⟨e1, b1⟩ <;> rcases gone' v hv hbv with e2 | ⟨e2, b2⟩
    · rw [onew u hu e1, onew v hv e2, hck u e1, hck v e2]
      exact ⟨fun _ => Int.le_refl _, fun _ => rfl⟩
    · rw [onew u hu e1, mark_at _ _ _ _ e2]
      have := h.old v hv b2
      exact ⟨fun q => by omega, fun q => by omega⟩
    · rw [mark_at _ _ _ _ e1, onew v hv e2, hck v e2]
      have h1 := h.old u hu b1
      have h2 := h.lo u hu b1
      exact ⟨fun q => by omega, fun q => by omega⟩
    · rw [mark_at _ _ _ _ e1, mark_at _ _ _ _ e2]
      exact h.ups u v hu hv b1 b2
end Go.Proofs.Ythbojpaghbbnnaa.Z
namespace Go.Proofs.Ythbojpaghbbnnaa.Z
open Go Go.RowKit
set_option linter.unusedVariables false
set_option linter.unusedSimpArgs false
/-- Colours that are good along an order. -/
structure Good (G : Gr) (at' cl : List Int) : Prop where
  len : cl.length = G.n
  rng : ∀ v, v < G.n → 0 ≤ cl.getD v 0 ∧ cl.getD v 0 ≤ (laterN G at' v : Int)
  ne : ∀ u v, G.adj u v = true → cl.getD u 0 ≠ cl.getD v 0
theorem seen_le {G : Gr} {at' out : List Int} {v c : Nat} (h : ∀ c', c' < c → ∃ u, u ∈ G.nb v ∧ at'.getD u 0 > at'.getD v 0 ∧ out.getD u 0 = (c' : Int)) : c ≤ laterN G at' v := by
  have hsub : List.range c ⊆ ((G.nb v).filter (fun u => decide (at'.getD u 0 > at'.getD v 0))).map (fun u => (out.getD u 0).toNat) := fun x hx => by
    rw [List.mem_range] at hx
    obtain ⟨u, h1, h2, h3⟩ := h x hx
    refine List.mem_map.2 ⟨u, List.mem_filter.2 ⟨h1, decide_eq_true h2⟩, ?_⟩
    rw [h3, Int.toNat_natCast]
  have := (List.nodup_range (n := c)).length_le_of_subset hsub
  rw [List.length_range, List.length_map, ← List.countP_eq_length_filter] at this
  exact this
namespace ColP
theorem F11_is {G : Gr} (hG : G.Ok) (hn : G.n ≤ 4096) {order at' out : List Int} (ha : at'.length = G.n) (ho : out.length = G.n) (hout : ∀ u, u < G.n → 0 ≤ out.getD u 0) {i : Int} {v : Nat} :
    ∃ r, F11 (some G) order i (v : Int) (up (G.nb v)) ((up (G.nb v)).length : Int) 0 at' out (List.replicate ((G.nb v).length + 1) false) = some ((some G, order, i, (v : Int), ()), (at', out, r, ())) ∧ r.length = (G.nb v).length + 1 ∧ ∀ c : Nat, c < (G.nb v).length + 1 → (r.getD c false = true ↔ ∃ u, u ∈ G.nb v ∧ at'.getD u 0 > i ∧ out.getD u 0 = (c : Int)) := by
  have hlen : (up (G.nb v)).length = (G.nb v).length := up_length _
  have hb := G.nb_length_le v
  have key := F11_inv (g0 := some G) (order1 := order) (i9 := i) (v10 := (v : Int)) (t44 := up (G.nb v)) (t45 := ((up (G.nb v)).length : Int)) (r0 := at') (r1 := out)
    (fun t r => ∃ j : Nat, t = (j : Int) ∧ j ≤ (G.nb v).length ∧ r.length = (G.nb v).length + 1 ∧ ∀ c : Nat, c < (G.nb v).length + 1 → (r.getD c false = true ↔ ∃ u, u ∈ (G.nb v).take j ∧ at'.getD u 0 > i ∧ out.getD u 0 = (c : Int))) (fun t _ => (G.nb v).length - t.toNat)
    (fun z => ∃ r, z = ((some G, order, i, (v : Int), ()), (at', out, r, ())) ∧ r.length = (G.nb v).length + 1 ∧ ∀ c : Nat, c < (G.nb v).length + 1 → (r.getD c false = true ↔ ∃ u, u ∈ G.nb v ∧ at'.getD u 0 > i ∧ out.getD u 0 = (c : Int))) (fun t r hI => by
      obtain ⟨j, rfl, hj, hr, hx⟩ := hI
      unfold R11
      refine led_dif (fun q1 => ?_) (fun q1 => led_x ⟨r, rfl, hr, fun c hc => ?_⟩)
      · have hjl : j < (G.nb v).length := by omega
        have hxi := upD hjl
        have tk := take_snoc 0 (G.nb v) j hjl
        have hxm := mem_getD 0 (G.nb v) j hjl
        obtain ⟨x, hxe⟩ : ∃ x, x = (G.nb v).getD j 0 := ⟨_, rfl⟩
        rw [← hxe] at hxi tk hxm
        have hxn : x < G.n := hG.rng' ((Gr.mem_nb hG).1 hxm)
        obtain ⟨q, hq⟩ : ∃ q : Nat, out.getD x 0 = (q : Int) := ⟨(out.getD x 0).toNat, by have := hout x hxn; omega⟩
        have hw : IntKind.wrap .i64 ((j : Int) + 1) = (j : Int) + 1 := wr (by omega) (by omega)
        have a1 : (0 : Int) ≤ (j : Int) := by omega
        have a2 : (j : Int) < ((up (G.nb v)).length : Int) := by omega
        have a3 : (0 : Int) ≤ (x : Int) := by omega
        have a4 : (x : Int) < (at'.length : Int) := by omega
        have a5 : (x : Int) < (out.length : Int) := by omega
        have a6 : (0 : Int) ≤ (q : Int) := by omega
        have snoc : ∀ c : Nat, (∃ u, u ∈ (G.nb v).take (j + 1) ∧ at'.getD u 0 > i ∧ out.getD u 0 = (c : Int)) ↔ (∃ u, u ∈ (G.nb v).take j ∧ at'.getD u 0 > i ∧ out.getD u 0 = (c : Int)) ∨ (at'.getD x 0 > i ∧ q = c) := fun c => by
          rw [tk]
          constructor
          · rintro ⟨u, h1, h2, h3⟩
            rcases List.mem_append.1 h1 with h1 | h1
            · exact .inl ⟨u, h1, h2, h3⟩
            · obtain rfl := List.mem_singleton.1 h1
              exact .inr ⟨h2, by omega⟩
          · rintro (⟨u, h1, h2, h3⟩ | ⟨h2, h3⟩)
            · exact ⟨u, List.mem_append_left _ h1, h2, h3⟩
            · exact ⟨x, List.mem_append_right _ (List.mem_singleton.2 rfl), h2, by omega⟩
        simp only [Int.toNat_natCast, hxi, hq, hw, a1, a2, a3, a4, a5, a6, if_true]
        by_cases h1 : at'.getD x 0 > i
        · by_cases h2 : (q : Int) < (r.length : Int)
          · have a7 : q < r.length := by omega
            simp only [h1, h2, a7, decide_true, if_true]
            refine led_k ⟨_, _, rfl, ⟨j + 1, by omega, by omega, by rw [List.length_set]; exact hr, fun c hc => ?_⟩, by omega⟩
            rw [snoc, Hx.getD_setG]
            by_cases e : q = c
            · rw [if_pos ⟨e, a7⟩]
              exact ⟨fun _ => .inr ⟨h1, e⟩, fun _ => rfl⟩
            · rw [if_neg (fun w => e w.1), hx c hc]
              exact ⟨.inl, fun w => w.elim id (fun w => absurd w.2 e)⟩
          · simp only [h1, h2, decide_true, decide_false, Bool.false_eq_true, if_true, if_false]
            refine led_k ⟨_, _, rfl, ⟨j + 1, by omega, by omega, hr, fun c hc => ?_⟩, by omega⟩
            rw [snoc, hx c hc]
            exact ⟨.inl, fun w => w.elim id (fun w => absurd w.2 (by omega))⟩
        · simp only [h1, decide_false, Bool.false_eq_true, if_false]
          refine led_k ⟨_, _, rfl, ⟨j + 1, by omega, by omega, hr, fun c hc => ?_⟩, by omega⟩
          rw [snoc, hx c hc]
          exact ⟨.inl, fun w => w.elim id (fun w => absurd w.1 h1)⟩
      · rw [hx c hc, List.take_of_length_le (by omega)]) 0 (List.replicate ((G.nb v).length + 1) false) ⟨0, rfl, by omega, by simp, fun c hc => by
      rw [Hx.getD_rep]
      exact ⟨fun h => (by cases h), fun ⟨u, h1, _⟩ => by cases h1⟩⟩
  obtain ⟨z, hz, r, rfl, h⟩ := key
  exact ⟨r, hz, h⟩
theorem F16_is {G : Gr} (hG : G.Ok) (hn : G.n ≤ 4096) {order at' out : List Int} {v : Nat} (hv : v < G.n) (ho : out.length = G.n) (h0 : out.getD v 0 = 0) {r : List Bool} (hr : r.length = (G.nb v).length + 1)
    (hx : ∀ c : Nat, c < (G.nb v).length + 1 → (r.getD c false = true ↔ ∃ u, u ∈ G.nb v ∧ at'.getD u 0 > at'.getD v 0 ∧ out.getD u 0 = (c : Int))) :
    ∃ c : Nat, F16 (some G) order (at'.getD v 0) (v : Int) at' out r = some ((some G, order, at'.getD v 0, ()), (at', out.set v (c : Int), ())) ∧ c ≤ laterN G at' v ∧ ∀ u, u ∈ G.nb v → at'.getD u 0 > at'.getD v 0 → out.getD u 0 ≠ (c : Int) := by
  have hlb : laterN G at' v ≤ (G.nb v).length := List.countP_le_length
  have hb := G.nb_length_le v
  have hvo : v < out.length := by omega
  have key := F16_inv (g0 := some G) (order1 := order) (i9 := at'.getD v 0) (v10 := (v : Int)) (r0 := at') (r2 := r)
    (fun o => ∃ c : Nat, o = out.set v (c : Int) ∧ ∀ c', c' < c → ∃ u, u ∈ G.nb v ∧ at'.getD u 0 > at'.getD v 0 ∧ out.getD u 0 = (c' : Int)) (fun o => (G.nb v).length + 1 - (o.getD v 0).toNat)
    (fun z => ∃ c : Nat, z = ((some G, order, at'.getD v 0, ()), (at', out.set v (c : Int), ())) ∧ c ≤ laterN G at' v ∧ ∀ u, u ∈ G.nb v → at'.getD u 0 > at'.getD v 0 → out.getD u 0 ≠ (c : Int)) (fun o hI => by
      obtain ⟨c, rfl, hc⟩ := hI
      have hcl := seen_le hc
      have hg : (out.set v (c : Int)).getD v 0 = (c : Int) := by rw [Hx.getD_set, if_pos ⟨rfl, hvo⟩]
      have hw : IntKind.wrap .i64 ((c : Int) + 1) = ((c + 1 : Nat) : Int) := by rw [wr (by omega) (by omega)]; omega
      have hlo : (out.set v (c : Int)).length = G.n := by rw [List.length_set]; exact ho
      have a1 : (0 : Int) ≤ (v : Int) := by omega
      have a2 : (v : Int) < ((out.set v (c : Int)).length : Int) := by omega
      have a3 : v < (out.set v (c : Int)).length := by omega
      have a4 : (0 : Int) ≤ (c : Int) := by omega
      have a5 : (c : Int) < (r.length : Int) := by omega
      have hss : (out.set v (c : Int)).set v ((c + 1 : Nat) : Int) = out.set v ((c + 1 : Nat) : Int) := List.set_set ..
      unfold R16
      simp only [Int.toNat_natCast, hg, hw, hss, a1, a2, a3, a4, a5, if_true]
      have hxc := hx c (by omega)
      cases hb2 : r.getD c false with
      | true =>
        simp only [if_true]
        have h1 := hxc.1 hb2
        refine led_k ⟨_, rfl, ⟨c + 1, rfl, fun c' hc' => ?_⟩, ?_⟩
        · rcases Nat.lt_or_ge c' c with q | q
          · exact hc c' q
          · have : c' = c := by omega
            rw [this]
            exact h1
        · rw [Hx.getD_set, if_pos ⟨rfl, hvo⟩]
          omega
      | false =>
        simp only [Bool.false_eq_true, if_false]
        refine led_x ⟨c, rfl, hcl, fun u h1 h2 h3 => ?_⟩
        rw [hxc.2 ⟨u, h1, h2, h3⟩] at hb2
        cases hb2) out ⟨0, by
      refine ext_getD 0 (by rw [List.length_set]) (fun w hw => ?_)
      rw [Hx.getD_set]
      by_cases e : v = w
      · subst e
        rw [if_pos ⟨rfl, hvo⟩, h0]
        rfl
      · rw [if_neg (fun q => e q.1)], fun c' hc' => absurd hc' (Nat.not_lt_zero c')⟩
  obtain ⟨z, hz, c, rfl, h⟩ := key
  exact ⟨c, hz, h⟩
theorem is {G : Gr} (hG : G.Ok) (hn : G.n ≤ 4096) {l : List Int} (hp : IsPerm G.n l) : ∃ at' cl, (pre (some G) l = true ∧ fn (some G) l = (cl, 0, ())) ∧ Places G.n l at' ∧ Good G at' cl := by
  obtain ⟨at', hpl, pl⟩ := placesP.is hn hp
  have hl := hp.len
  have key := F6_inv (g0 := some G) (order1 := l) (r0 := at')
    (fun i r => ∃ j : Nat, i = (j : Int) - 1 ∧ j ≤ G.n ∧ r.length = G.n ∧ (∀ w, w < G.n → 0 ≤ r.getD w 0 ∧ (at'.getD w 0 < (j : Int) → r.getD w 0 = 0) ∧ (at'.getD w 0 ≥ (j : Int) → r.getD w 0 ≤ (laterN G at' w : Int))) ∧ ∀ u w, G.adj u w = true → at'.getD u 0 ≥ (j : Int) → at'.getD w 0 ≥ (j : Int) → r.getD u 0 ≠ r.getD w 0) (fun i _ => (i + 1).toNat)
    (fun z => ∃ cl, z = ((), (cl, ())) ∧ Good G at' cl) (fun i r hI => by
      obtain ⟨j, rfl, hj, hr, hx, hy⟩ := hI
      unfold R6
      refine led_dif (fun q1 => ?_) (fun q1 => led_x ⟨r, rfl, hr, fun v hv => ?_, fun u v huv => ?_⟩)
      · obtain ⟨i, rfl⟩ : ∃ i, j = i + 1 := ⟨j - 1, by omega⟩
        have hin : i < G.n := by omega
        have ei : ((i + 1 : Nat) : Int) - 1 = (i : Int) := by omega
        obtain ⟨v, hv⟩ : ∃ v : Nat, l.getD i 0 = (v : Int) := ⟨(l.getD i 0).toNat, by have := (hp.rng i hin).1; omega⟩
        have hvn : v < G.n := by have := (hp.rng i hin).2; omega
        have hav := pl.at_ i hin
        rw [hv, Int.toNat_natCast] at hav
        have hb := G.nb_length_le v
        obtain ⟨r2, e1, l1, x1⟩ := F11_is hG hn (order := l) pl.len hr (fun u hu => (hx u hu).1) (i := (i : Int)) (v := v)
        rw [← hav] at x1
        obtain ⟨c, e2, c1, c2⟩ := F16_is hG hn (order := l) (at' := at') hvn hr ((hx v hvn).2.1 (by rw [hav]; omega)) l1 x1
        rw [hav] at e2
        have hw1 : IntKind.wrap .i64 (((G.nb v).length : Int) + 1) = (((G.nb v).length + 1 : Nat) : Int) := by rw [wr (by omega) (by omega)]; omega
        have hw2 : IntKind.wrap .i64 ((i : Int) - 1) = (i : Int) - 1 := wr (by omega) (by omega)
        have a1 : (0 : Int) ≤ (i : Int) := by omega
        have a2 : (i : Int) < (l.length : Int) := by omega
        have a3 : (0 : Int) ≤ (((G.nb v).length + 1 : Nat) : Int) := by omega
        have room : ((G.nb v).length + 1) * 1 ≤ 140737488355328 := by omega
        simp only [ei, Int.toNat_natCast, hv, (deg_fn G v).1, (deg_fn G v).2, (nbs_fn G v).1, (nbs_fn G v).2, hw1, hw2, a1, a2, a3, room, e1, e2, if_true]
        have gs : ∀ w, (r.set v (c : Int)).getD w 0 = if v = w then (c : Int) else r.getD w 0 := fun w => by
          rw [Hx.getD_set]
          by_cases e : v = w
          · rw [if_pos ⟨e, by omega⟩, if_pos e]
          · rw [if_neg (fun q => e q.1), if_neg e]
        have back : ∀ w, w < G.n → at'.getD w 0 ≥ (i : Int) → v ≠ w → at'.getD w 0 ≥ ((i + 1 : Nat) : Int) := fun w hw h1 h2 => by
          obtain ⟨q, q1, q2, q3⟩ := pl.of hp hw
          have : q ≠ i := fun e => by
            rw [e, hv] at q2
            omega
          omega
        have nbr : ∀ w, G.adj v w = true → at'.getD w 0 ≥ (i : Int) → r.getD w 0 ≠ (c : Int) := fun w h1 h2 => by
          have hwn := hG.rng' h1
          have hne : v ≠ w := fun e => by
            rw [e, hG.irr] at h1
            cases h1
          refine c2 w ((Gr.mem_nb hG).2 h1) ?_
          have := back w hwn h2 hne
          omega
        refine led_k ⟨_, _, rfl, ⟨i, rfl, by omega, by rw [List.length_set]; exact hr, fun w hwn => ?_, fun u w huw h1 h2 => ?_⟩, by omega⟩
        · rw [gs]
          by_cases e : v = w
          · rw [if_pos e]
            refine ⟨by omega, fun q => ?_, fun _ => ?_⟩
            · rw [← e, hav] at q
              omega
            · rw [← e]
              omega
          · rw [if_neg e]
            obtain ⟨h3, h4, h5⟩ := hx w hwn
            exact ⟨h3, fun q => h4 (by omega), fun q => h5 (back w hwn q e)⟩
        · rw [gs, gs]
          have hun := hG.rng u w huw
          have hwn := hG.rng' huw
          by_cases e1 : v = u
          · rw [if_pos e1]
            by_cases e2 : v = w
            · rw [← e1, ← e2, hG.irr] at huw
              cases huw
            · rw [if_neg e2]
              exact fun q => nbr w (by rw [e1]; exact huw) h2 q.symm
          · rw [if_neg e1]
            by_cases e2 : v = w
            · rw [if_pos e2]
              exact fun q => nbr u (by rw [e2, hG.symm]; exact huw) h1 q
            · rw [if_neg e2]
              exact hy u w huw (back u hun h1 e1) (back w hwn h2 e2)
      · obtain ⟨q, q1', q2, q3⟩ := pl.of hp hv
        obtain ⟨h3, h4, h5⟩ := hx v hv
        exact ⟨h3, h5 (by omega)⟩
      · obtain ⟨q, q1', q2, q3⟩ := pl.of hp (hG.rng u v huv)
        obtain ⟨q', q1'', q2', q3'⟩ := pl.of hp (hG.rng' huv)
        exact hy u v huv (by omega) (by omega)) ((G.n : Int) - 1) (List.replicate G.n 0)
    ⟨G.n, rfl, by omega, by simp, fun w hw => by
      obtain ⟨q, q1, q2, q3⟩ := pl.of hp hw
      rw [Hx.getD_rep]
      exact ⟨by omega, fun _ => rfl, fun q => by omega⟩, fun u w huw h1 h2 => by
      obtain ⟨q, q1, q2, q3⟩ := pl.of hp (hG.rng u w huw)
      omega⟩
  obtain ⟨z, hz, cl, rfl, hgood⟩ := key
  refine ⟨at', cl, is_fn _ _ ?_, pl, hgood⟩
  unfold run'
  have a1 : (0 : Int) ≤ (G.n : Int) := by omega
  have room : G.n * 8 ≤ 140737488355328 := by omega
  have hw : IntKind.wrap .i64 ((G.n : Int) - 1) = (G.n : Int) - 1 := wr (by omega) (by omega)
  simp only [hpl.1, hpl.2, bne_self_eq_false, Bool.false_eq_true, N.pre, N.fn, gr_some, Option.isSome_some, Int.toNat_natCast, hl, hw, a1, room, hz, if_true, if_false]
end ColP
def sumP (n : Nat) (q : Nat → Nat → Nat → Bool) : List (Nat × Nat) → Nat
  | [] => 0
  | p :: ps => (List.range n).countP (q p.1 p.2) + sumP n q ps
theorem sumP_app (n : Nat) (q : Nat → Nat → Nat → Bool) : ∀ a b : List (Nat × Nat), sumP n q (a ++ b) = sumP n q a + sumP n q b
  | [], b => by simp [sumP]
  | p :: a, b => by
    rw [List.cons_append, sumP, sumP, sumP_app n q a b]
    omega
theorem sumP_le {n m : Nat} {q : Nat → Nat → Nat → Bool} : ∀ {l : List (Nat × Nat)}, (∀ p ∈ l, (List.range n).countP (q p.1 p.2) ≤ m) → sumP n q l ≤ m * l.length
  | [], _ => by simp [sumP]
  | p :: l, h => by
    have ih := sumP_le (m := m) (l := l) (fun p hp => h p (List.mem_cons_of_mem _ hp))
    have h1 := h p (List.mem_cons_self ..)
    rw [sumP, List.length_cons, Nat.mul_succ]
    omega
theorem sumP_add {n : Nat} {q a b c : Nat → Nat → Nat → Bool} : ∀ {l : List (Nat × Nat)}, (∀ p ∈ l, (List.range n).countP (q p.1 p.2) = (List.range n).countP (a p.1 p.2) + (List.range n).countP (b p.1 p.2) + (List.range n).countP (c p.1 p.2)) → sumP n q l = sumP n a l + sumP n b l + sumP n c l
  | [], _ => rfl
  | p :: l, h => by
    have ih := sumP_add (l := l) (fun p hp => h p (List.mem_cons_of_mem _ hp))
    have h1 := h p (List.mem_cons_self ..)
    rw [sumP, sumP, sumP, sumP]
    omega
theorem count3 {q a b c : Nat → Bool} : ∀ {l : List Nat}, (∀ z ∈ l, q z = true ↔ a z = true ∨ b z = true ∨ c z = true) → (∀ z ∈ l, ¬ (a z = true ∧ b z = true) ∧ ¬ (a z = true ∧ c z = true) ∧ ¬ (b z = true ∧ c z = true)) → l.countP q = l.countP a + l.countP b + l.countP c
  | [], _, _ => rfl
  | x :: l, h1, h2 => by
    have ih := count3 (l := l) (fun z hz => h1 z (List.mem_cons_of_mem _ hz)) (fun z hz => h2 z (List.mem_cons_of_mem _ hz))
    have e1 := h1 x (List.mem_cons_self ..)
    have e2 := h2 x (List.mem_cons_self ..)
    rw [List.countP_cons, List.countP_cons, List.countP_cons, List.countP_cons]
    by_cases ha : a x = true <;> by_cases hb : b x = true <;> by_cases hc : c x = true <;> simp only [ha, hb, hc, if_true, if_false] at e1 e2 ⊢ <;> (by_cases hq : q x = true <;> simp only [hq, if_true, if_false] <;> simp_all <;> omega)
abbrev Tri3 : Type := Nat × Nat × Nat
def tripL (n : Nat) (q : Nat → Nat → Nat → Bool) (mk : Nat → Nat → Nat → Tri3) (ps : List (Nat × Nat)) : List Tri3 := ps.flatMap (fun p => ((List.range n).filter (q p.1 p.2)).map (mk p.1 p.2))
theorem tripL_len (n : Nat) (q : Nat → Nat → Nat → Bool) (mk : Nat → Nat → Nat → Tri3) : ∀ ps, (tripL n q mk ps).length = sumP n q ps
  | [] => rfl
  | p :: ps => by
    have ih := tripL_len n q mk ps
    unfold tripL at ih ⊢
    rw [List.flatMap_cons, List.length_append, ih, List.length_map, ← List.countP_eq_length_filter, sumP]
theorem tripL_nodup {n : Nat} {q : Nat → Nat → Nat → Bool} {mk : Nat → Nat → Nat → Tri3} (hmk : ∀ a b c a' b' c', mk a b c = mk a' b' c' → a = a' ∧ b = b' ∧ c = c') {ps : List (Nat × Nat)} (h : ps.Nodup) : (tripL n q mk ps).Nodup := by
  unfold tripL List.Nodup
  rw [List.pairwise_flatMap]
  refine ⟨fun p _ => ?_, List.Pairwise.imp ?_ h⟩
  · exact nodup_map (fun a b e => (hmk _ _ _ _ _ _ e).2.2) (List.nodup_range.filter _)
  · intro p p' hpp x hx y hy
    obtain ⟨a, _, rfl⟩ := List.mem_map.1 hx
    obtain ⟨b, _, rfl⟩ := List.mem_map.1 hy
    intro e
    obtain ⟨e1, e2, _⟩ := hmk _ _ _ _ _ _ e
    exact hpp (Prod.ext e1 e2)
theorem mem_tripL {n : Nat} {q : Nat → Nat → Nat → Bool} {mk : Nat → Nat → Nat → Tri3} {ps : List (Nat × Nat)} {t : Tri3} : t ∈ tripL n q mk ps ↔ ∃ a b c, (a, b) ∈ ps ∧ c < n ∧ q a b c = true ∧ t = mk a b c := by
  unfold tripL
  rw [List.mem_flatMap]
  constructor
  · rintro ⟨p, h1, h2⟩
    obtain ⟨c, h3, rfl⟩ := List.mem_map.1 h2
    obtain ⟨h4, h5⟩ := List.mem_filter.1 h3
    exact ⟨p.1, p.2, c, h1, List.mem_range.1 h4, h5, rfl⟩
  · rintro ⟨a, b, c, h1, h2, h3, rfl⟩
    exact ⟨(a, b), h1, List.mem_map.2 ⟨c, List.mem_filter.2 ⟨List.mem_range.2 h2, h3⟩, rfl⟩⟩
/-- The third vertex above, between and below, where c holds of the rising triple. -/
def qUp (G : Gr) (c : Tri3 → Bool) (a b z : Nat) : Bool := G.adj a z && G.adj b z && decide (b < z) && c (a, b, z)
def qMid (G : Gr) (c : Tri3 → Bool) (a b z : Nat) : Bool := G.adj a z && G.adj b z && (decide (a < z) && decide (z < b)) && c (a, z, b)
def qLow (G : Gr) (c : Tri3 → Bool) (a b z : Nat) : Bool := G.adj a z && G.adj b z && decide (z < a) && c (z, a, b)
def tris (G : Gr) (c : Tri3 → Bool) : List Tri3 := tripL G.n (qUp G c) (fun a b z => (a, b, z)) G.pairs
theorem mem_tris {G : Gr} (hG : G.Ok) {c : Tri3 → Bool} {u v w : Nat} : (u, v, w) ∈ tris G c ↔ (u < v ∧ v < w ∧ G.adj u v = true ∧ G.adj u w = true ∧ G.adj v w = true) ∧ c (u, v, w) = true := by
  unfold tris
  rw [mem_tripL]
  constructor
  · rintro ⟨a, b, z, h1, h2, h3, e⟩
    injection e with e1 e2
    injection e2 with e2 e3
    subst e1 e2 e3
    have h4 := (Gr.mem_pairs hG).1 h1
    unfold qUp at h3
    simp only [Bool.and_eq_true, decide_eq_true_eq] at h3
    exact ⟨⟨h4.1, h3.1.2, h4.2, h3.1.1.1, h3.1.1.2⟩, h3.2⟩
  · rintro ⟨⟨h1, h2, h3, h4, h5⟩, h6⟩
    refine ⟨u, v, w, (Gr.mem_pairs hG).2 ⟨h1, h3⟩, hG.rng' h4, ?_, rfl⟩
    unfold qUp
    simp only [Bool.and_eq_true, decide_eq_true_eq]
    exact ⟨⟨⟨h4, h5⟩, h2⟩, h6⟩
theorem tris_nodup (G : Gr) (c : Tri3 → Bool) : (tris G c).Nodup := tripL_nodup (fun a b c a' b' c' e => by
  injection e with e1 e2
  injection e2 with e2 e3
  exact ⟨e1, e2, e3⟩) G.pairs_nodup
theorem tris_up (G : Gr) (c : Tri3 → Bool) : sumP G.n (qUp G c) G.pairs = (tris G c).length := (tripL_len ..).symm
theorem tris_mid {G : Gr} (hG : G.Ok) (c : Tri3 → Bool) : sumP G.n (qMid G c) G.pairs = (tris G c).length := by
  rw [← tripL_len G.n (qMid G c) (fun a b z => (a, z, b)) G.pairs]
  refine (perm_of_mem (tripL_nodup (fun a b c a' b' c' e => by
    injection e with e1 e2
    injection e2 with e2 e3
    exact ⟨e1, e3, e2⟩) G.pairs_nodup) (tris_nodup G c) (fun t => ?_)).length_eq
  obtain ⟨u, v, w⟩ := t
  rw [mem_tris hG, mem_tripL]
  constructor
  · rintro ⟨a, b, z, h1, h2, h3, e⟩
    injection e with e1 e2
    injection e2 with e2 e3
    subst e1 e2 e3
    have h4 := (Gr.mem_pairs hG).1 h1
    unfold qMid at h3
    simp only [Bool.and_eq_true, decide_eq_true_eq] at h3
    exact ⟨⟨h3.1.2.1, h3.1.2.2, h3.1.1.1, h4.2, by rw [hG.symm]; exact h3.1.1.2⟩, h3.2⟩
  · rintro ⟨⟨h1, h2, h3, h4, h5⟩, h6⟩
    refine ⟨u, w, v, (Gr.mem_pairs hG).2 ⟨by omega, h4⟩, hG.rng' h3, ?_, rfl⟩
    unfold qMid
    simp only [Bool.and_eq_true, decide_eq_true_eq]
    exact ⟨⟨⟨h3, by rw [hG.symm]; exact h5⟩, h1, h2⟩, h6⟩
theorem tris_low {G : Gr} (hG : G.Ok) (c : Tri3 → Bool) : sumP G.n (qLow G c) G.pairs = (tris G c).length := by
  rw [← tripL_len G.n (qLow G c) (fun a b z => (z, a, b)) G.pairs]
  refine (perm_of_mem (tripL_nodup (fun a b c a' b' c' e => by
    injection e with e1 e2
    injection e2 with e2 e3
    exact ⟨e2, e3, e1⟩) G.pairs_nodup) (tris_nodup G c) (fun t => ?_)).length_eq
  obtain ⟨u, v, w⟩ := t
  rw [mem_tris hG, mem_tripL]
  constructor
  · rintro ⟨a, b, z, h1, h2, h3, e⟩
    injection e with e1 e2
    injection e2 with e2 e3
    subst e1 e2 e3
    have h4 := (Gr.mem_pairs hG).1 h1
    unfold qLow at h3
    simp only [Bool.and_eq_true, decide_eq_true_eq] at h3
    exact ⟨⟨h3.1.2, h4.1, by rw [hG.symm]; exact h3.1.1.1, by rw [hG.symm]; exact h3.1.1.2, h4.2⟩, h3.2⟩
  · rintro ⟨⟨h1, h2, h3, h4, h5⟩, h6⟩
    refine ⟨v, w, u, (Gr.mem_pairs hG).2 ⟨h2, h5⟩, hG.rng u v h3, ?_, rfl⟩
    unfold qLow
    simp only [Bool.and_eq_true, decide_eq_true_eq]
    exact ⟨⟨⟨by rw [hG.symm]; exact h3, by rw [hG.symm]; exact h4⟩, h1⟩, h6⟩
def qAll (G : Gr) (a b z : Nat) : Bool := G.adj a z && G.adj b z
theorem tris_tri {G : Gr} (hG : G.Ok) : (tris G (fun _ => true)).length = triOf G := by
  rw [← tris_up]
  unfold triOf
  have h : ∀ ps : List (Nat × Nat), sumP G.n (qUp G (fun _ => true)) ps = triTo G ps := fun ps => by
    induction ps with
    | nil => rfl
    | cons p ps ih =>
      rw [sumP, triTo, ih]
      congr 1
      unfold triAt Gr.nb
      rw [List.countP_filter]
      refine List.countP_congr (fun z _ => ?_)
      unfold qUp
      simp only [Bool.and_eq_true, decide_eq_true_eq, and_true]
      constructor
      · rintro ⟨⟨h1, h2⟩, h3⟩; exact ⟨⟨h3, h2⟩, h1⟩
      · rintro ⟨⟨h3, h2⟩, h1⟩; exact ⟨⟨h1, h2⟩, h3⟩
  exact h _
theorem common_is {G : Gr} (hG : G.Ok) : sumP G.n (qAll G) G.pairs = 3 * triOf G := by
  have h := sumP_add (n := G.n) (q := qAll G) (a := qUp G (fun _ => true)) (b := qMid G (fun _ => true)) (c := qLow G (fun _ => true)) (l := G.pairs) (fun p hp => by
    have hp' := (Gr.mem_pairs hG (u := p.1) (v := p.2)).1 hp
    refine count3 (fun z _ => ?_) (fun z _ => ?_)
    · unfold qAll qUp qMid qLow
      simp only [Bool.and_eq_true, decide_eq_true_eq, and_true]
      constructor
      · rintro ⟨h1, h2⟩
        have n1 : z ≠ p.1 := fun e => by rw [e, hG.irr] at h1; cases h1
        have n2 : z ≠ p.2 := fun e => by rw [e, hG.irr] at h2; cases h2
        rcases Nat.lt_or_ge p.2 z with q | q
        · exact .inl ⟨⟨h1, h2⟩, q⟩
        · rcases Nat.lt_or_ge z p.1 with q2 | q2
          · exact .inr (.inr ⟨⟨h1, h2⟩, q2⟩)
          · exact .inr (.inl ⟨⟨h1, h2⟩, by omega, by omega⟩)
      · rintro (h | h | h)
        · exact h.1
        · exact h.1
        · exact h.1
    · unfold qUp qMid qLow
      simp only [Bool.and_eq_true, decide_eq_true_eq, and_true]
      exact ⟨fun h => by omega, fun h => by omega, fun h => by omega⟩)
  rw [h, tris_up, tris_mid hG, tris_low hG, tris_tri hG]
  omega
/-- Which of a triple stands last. -/
def lastU (at' : List Int) (t : Tri3) : Bool := decide (at'.getD t.1 0 > at'.getD t.2.1 0) && decide (at'.getD t.1 0 > at'.getD t.2.2 0)
def lastV (at' : List Int) (t : Tri3) : Bool := decide (at'.getD t.2.1 0 > at'.getD t.1 0) && decide (at'.getD t.2.1 0 > at'.getD t.2.2 0)
def lastW (at' : List Int) (t : Tri3) : Bool := decide (at'.getD t.2.2 0 > at'.getD t.1 0) && decide (at'.getD t.2.2 0 > at'.getD t.2.1 0)
def qLast (G : Gr) (at' : List Int) (a b z : Nat) : Bool := G.adj a z && G.adj b z && (decide (at'.getD z 0 > at'.getD a 0) && decide (at'.getD z 0 > at'.getD b 0))
theorem tri_split {G : Gr} (hG : G.Ok) {l at' : List Int} (hp : IsPerm G.n l) (p : Places G.n l at') : triOf G ≤ (tris G (lastW at')).length + (tris G (lastV at')).length + (tris G (lastU at')).length := by
  rw [← tris_tri hG, ← List.length_append, ← List.length_append]
  refine (tris_nodup G _).length_le_of_subset (fun t ht => ?_)
  obtain ⟨u, v, w⟩ := t
  have h := (mem_tris hG).1 ht
  obtain ⟨⟨h1, h2, h3, h4, h5⟩, _⟩ := h
  obtain ⟨i, i1, i2, i3⟩ := p.of hp (hG.rng u v h3)
  obtain ⟨j, j1, j2, j3⟩ := p.of hp (hG.rng' h3)
  obtain ⟨k, k1, k2, k3⟩ := p.of hp (hG.rng' h4)
  have n1 : i ≠ j := fun e => by rw [e, j2] at i2; omega
  have n2 : i ≠ k := fun e => by rw [e, k2] at i2; omega
  have n3 : j ≠ k := fun e => by rw [e, k2] at j2; omega
  rw [List.mem_append, List.mem_append, mem_tris hG, mem_tris hG, mem_tris hG]
  have hc : (lastW at' (u, v, w) = true ∨ lastV at' (u, v, w) = true) ∨ lastU at' (u, v, w) = true := by
    unfold lastU lastV lastW
    simp only [Bool.and_eq_true, decide_eq_true_eq, i3, j3, k3]
    omega
  have hb : u < v ∧ v < w ∧ G.adj u v = true ∧ G.adj u w = true ∧ G.adj v w = true := ⟨h1, h2, h3, h4, h5⟩
  exact hc.imp (fun q => q.imp (fun q => ⟨hb, q⟩) (fun q => ⟨hb, q⟩)) (fun q => ⟨hb, q⟩)
theorem tri_le {G : Gr} (hG : G.Ok) (hn : G.n ≤ 4096) {D : Nat} (hD : maxTo 0 (coresOf G) = (D : Int)) : triOf G ≤ D * G.pairs.length := by
  obtain ⟨m1, m2, m3, m4, m5⟩ := max_cores hG hn
  have hb := order_behind hG hn
  obtain ⟨at', _, pl⟩ := placesP.is hn hb.perm
  refine Nat.le_trans (tri_split hG hb.perm pl) ?_
  rw [← tris_up, ← tris_mid hG, ← tris_low hG]
  have h := sumP_add (n := G.n) (q := qLast G at') (a := qUp G (lastW at')) (b := qMid G (lastV at')) (c := qLow G (lastU at')) (l := G.pairs) (fun p hp => by
    have hp' := (Gr.mem_pairs hG (u := p.1) (v := p.2)).1 hp
    refine count3 (fun z _ => ?_) (fun z _ => ?_)
    · unfold qLast qUp qMid qLow lastU lastV lastW
      simp only [Bool.and_eq_true, decide_eq_true_eq]
      constructor
      · rintro ⟨⟨h1, h2⟩, h3, h4⟩
        have n1 : z ≠ p.1 := fun e => by rw [e, hG.irr] at h1; cases h1
        have n2 : z ≠ p.2 := fun e => by rw [e, hG.irr] at h2; cases h2
        rcases Nat.lt_or_ge p.2 z with q | q
        · exact .inl ⟨⟨⟨h1, h2⟩, q⟩, h3, h4⟩
        · rcases Nat.lt_or_ge z p.1 with q2 | q2
          · exact .inr (.inr ⟨⟨⟨h1, h2⟩, q2⟩, h3, h4⟩)
          · exact .inr (.inl ⟨⟨⟨h1, h2⟩, by omega, by omega⟩, h3, h4⟩)
      · rintro (h | h | h)
        · exact ⟨h.1.1, h.2⟩
        · exact ⟨h.1.1, h.2⟩
        · exact ⟨h.1.1, h.2⟩
    · unfold qUp qMid qLow
      simp only [Bool.and_eq_true, decide_eq_true_eq]
      exact ⟨fun h => by omega, fun h => by omega, fun h => by omega⟩)
  rw [← h]
  refine sumP_le (fun p hp => ?_)
  have hp' := (Gr.mem_pairs hG (u := p.1) (v := p.2)).1 hp
  have hv := hG.rng p.1 p.2 hp'.2
  have h1 := later_le hG hb pl hv
  have h2 := m5 p.1 hv
  have h3 : (List.range G.n).countP (qLast G at' p.1 p.2) ≤ laterN G at' p.1 := by
    unfold laterN Gr.nb
    rw [List.countP_filter]
    refine List.countP_mono_left (fun z _ hz => ?_)
    unfold qLast at hz
    simp only [Bool.and_eq_true, decide_eq_true_eq] at hz ⊢
    exact ⟨hz.2.1, hz.1.1⟩
  omega
theorem has_fn {G : Gr} (u v : Nat) (hu : u ≤ 1099511627776) (hv : v ≤ 1099511627776) : Has.pre (some G) (u : Int) (v : Int) = true ∧ Has.fn (some G) (u : Int) (v : Int) = (G.adj u v, ()) := by
  have w1 : wf (u : Int) = true := wf_iff.2 ⟨by omega, by omega⟩
  have w2 : wf (v : Int) = true := wf_iff.2 ⟨by omega, by omega⟩
  refine ⟨?_, ?_⟩
  · unfold Has.pre
    rw [w1, w2]
    rfl
  · unfold Has.fn
    rw [gr_some, has_nat]
namespace PeelColours
theorem F20_is {G : Gr} (hn : G.n ≤ 4096) {c0 : Nat} (hc : c0 ≤ 1099511627776) {ps : List (Int × Int)} {i : Int} {u v : Nat} (hu : u < G.n) (hv : v < G.n) {r0 r1 r2 : List Int} (h1 : r1.length = G.n) :
    F20 (some G) (c0 : Int) ps i (u : Int) (v : Int) 0 r0 r1 r2 = some ((some G, ((c0 + (List.range G.n).countP (qAll G u v) : Nat) : Int), ps, i, ()), (r0, r1, r2, ())) := by
  have key := F20_inv (g8 := some G) (p16 := ps) (i17 := i) (u18 := (u : Int)) (v19 := (v : Int)) (r0 := r0) (r1 := r1) (r2 := r2) (fun c w => ∃ j : Nat, w = (j : Int) ∧ j ≤ G.n ∧ c = ((c0 + (List.range j).countP (qAll G u v) : Nat) : Int)) (fun _ w => G.n - w.toNat)
    (fun z => z = ((some G, ((c0 + (List.range G.n).countP (qAll G u v) : Nat) : Int), ps, i, ()), (r0, r1, r2, ()))) (fun c w hI => by
      obtain ⟨j, rfl, hj, rfl⟩ := hI
      unfold R20
      refine led_dif (fun q1 => ?_) (fun q1 => led_x ?_)
      · have hw : IntKind.wrap .i64 ((j : Int) + 1) = (j : Int) + 1 := wr (by omega) (by omega)
        have hcl := List.countP_le_length (p := qAll G u v) (l := List.range j)
        rw [List.length_range] at hcl
        have hw2 : IntKind.wrap .i64 (((c0 + (List.range j).countP (qAll G u v) : Nat) : Int) + 1) = ((c0 + (List.range j).countP (qAll G u v) : Nat) : Int) + 1 := wr (by omega) (by omega)
        have x := has_fn (G := G) u j (by omega) (by omega)
        have y := has_fn (G := G) v j (by omega) (by omega)
        have cs : (List.range (j + 1)).countP (qAll G u v) = (List.range j).countP (qAll G u v) + if (G.adj u j && G.adj v j) = true then 1 else 0 := by
          rw [List.range_succ, List.countP_append, List.countP_singleton]
          rfl
        simp only [x.1, x.2, y.1, y.2, hw, hw2, if_true]
        cases hx : G.adj u j with
        | false =>
          rw [hx, Bool.false_and, if_neg (by simp)] at cs
          simp only [Bool.false_eq_true, if_false]
          exact led_k ⟨_, _, rfl, ⟨j + 1, by omega, by omega, by rw [cs]; rfl⟩, by omega⟩
        | true =>
          cases hy : G.adj v j with
          | false =>
            rw [hx, hy, if_neg (by simp)] at cs
            simp only [Bool.false_eq_true, if_true, if_false]
            exact led_k ⟨_, _, rfl, ⟨j + 1, by omega, by omega, by rw [cs]; rfl⟩, by omega⟩
          | true =>
            rw [hx, hy, if_pos (show (true && true) = true from rfl)] at cs
            simp only [if_true]
            exact led_k ⟨_, _, rfl, ⟨j + 1, by omega, by omega, by rw [cs]; omega⟩, by omega⟩
      · obtain rfl : j = G.n := by omega
        rfl) (c0 : Int) 0 ⟨0, rfl, by omega, by simp⟩
  obtain ⟨z, hz, rfl⟩ := key
  exact hz
theorem F13_is {G : Gr} (hG : G.Ok) (hn : G.n ≤ 120) {at1 at2 r0 r1 r2 : List Int} (g1 : Good G at1 r1) (g2 : Good G at2 r2) :
    F13 (some G) 0 (upP G.pairs) 0 r0 r1 r2 = some (Sum.inr ((some G, ((sumP G.n (qAll G) G.pairs : Nat) : Int), upP G.pairs, ()), (r0, r2, ()))) := by
  have hul : (upP G.pairs).length = G.pairs.length := by unfold upP; rw [List.length_map]
  have hps : G.pairs.length ≤ 14400 := Nat.le_trans (edges_le G) (Nat.mul_le_mul hn hn)
  have l1 := g1.len
  have l2 := g2.len
  have key := F13_inv (p16 := upP G.pairs) (r0 := r0) (r1 := r1) (r2 := r2) (g8 := some G) (fun c i => ∃ j : Nat, i = (j : Int) ∧ j ≤ G.pairs.length ∧ c = ((sumP G.n (qAll G) (G.pairs.take j) : Nat) : Int)) (fun _ i => G.pairs.length - i.toNat)
    (fun z => z = Sum.inr ((some G, ((sumP G.n (qAll G) G.pairs : Nat) : Int), upP G.pairs, ()), (r0, r2, ()))) (fun c i hI => by
      obtain ⟨j, rfl, hj, rfl⟩ := hI
      unfold R13
      refine led_dif (fun q1 => ?_) (fun q1 => led_x ?_)
      · have hjl : j < G.pairs.length := by omega
        have hw : IntKind.wrap .i64 ((j : Int) + 1) = (j : Int) + 1 := wr (by omega) (by omega)
        have tk := take_snoc (0, 0) G.pairs j hjl
        have hm := mem_getD (0, 0) G.pairs j hjl
        have hup : (upP G.pairs).getD j ((0 : Int), (0 : Int)) = (((G.pairs.getD j (0, 0)).1 : Int), ((G.pairs.getD j (0, 0)).2 : Int)) := by
          simp [upP, List.getD_eq_getElem?_getD, hjl]
        obtain ⟨p, hp⟩ : ∃ p, p = G.pairs.getD j (0, 0) := ⟨_, rfl⟩
        rw [← hp] at tk hup hm
        obtain ⟨u, v⟩ := p
        have huv := (Gr.mem_pairs hG).1 hm
        have hun := hG.rng u v huv.2
        have hvn := hG.rng' huv.2
        have hs := sumP_le (n := G.n) (m := 120) (q := qAll G) (l := G.pairs.take j) (fun p _ => by
          have := List.countP_le_length (p := qAll G p.1 p.2) (l := List.range G.n)
          rw [List.length_range] at this
          omega)
        rw [List.length_take] at hs
        have f := F20_is (G := G) (by omega) (c0 := sumP G.n (qAll G) (G.pairs.take j)) (by omega) (ps := upP G.pairs) (i := (j : Int)) hun hvn (r0 := r0) (r2 := r2) l1
        have a1 : (0 : Int) ≤ (j : Int) := by omega
        have a2 : (j : Int) < ((upP G.pairs).length : Int) := by omega
        have a3 : (0 : Int) ≤ (u : Int) := by omega
        have a4 : (0 : Int) ≤ (v : Int) := by omega
        have a5 : (u : Int) < (r1.length : Int) := by omega
        have a6 : (v : Int) < (r1.length : Int) := by omega
        have a7 : (u : Int) < (r2.length : Int) := by omega
        have a8 : (v : Int) < (r2.length : Int) := by omega
        have n1 : ¬ (u : Int) < 0 := by omega
        have n2 : ¬ (v : Int) < 0 := by omega
        have n3 : ¬ (u : Int) ≥ (r1.length : Int) := by omega
        have n4 : ¬ (v : Int) ≥ (r1.length : Int) := by omega
        have n5 : (r1.getD u 0 == r1.getD v 0) = false := by rw [beq_eq_false_iff_ne]; exact g1.ne u v huv.2
        have n6 : (r2.getD u 0 == r2.getD v 0) = false := by rw [beq_eq_false_iff_ne]; exact g2.ne u v huv.2
        simp only [Int.toNat_natCast, hup, a1, a2, a3, a4, a5, a6, a7, a8, n1, n2, n3, n4, n5, n6, f, hw, decide_false, Bool.false_eq_true, if_true, if_false]
        refine led_k ⟨_, _, rfl, ⟨j + 1, by omega, by omega, ?_⟩, by omega⟩
        rw [tk, sumP_app, sumP, sumP]
        rfl
      · obtain rfl : j = G.pairs.length := by omega
        rw [List.take_length]) 0 0 ⟨0, rfl, by omega, rfl⟩
  obtain ⟨z, hz, rfl⟩ := key
  exact hz
theorem F27_is {n : Nat} (hn : n ≤ 4096) {g : Option Gr} {cm : Int} {ps : List (Int × Int)} {c b : List Int} (hc : c.length = n) (hb : b.length = n) (h : ∀ v, v < n → 0 ≤ b.getD v 0 ∧ b.getD v 0 ≤ c.getD v 0) :
    F27 g cm ps 0 c b = some (Sum.inr ((g, cm, ps, ()), (c, ()))) := by
  have key := F27_inv (g8 := g) (common15 := cm) (p16 := ps) (r0 := c) (r1 := b) (fun i => ∃ j : Nat, i = (j : Int) ∧ j ≤ n) (fun i => n - i.toNat)
    (fun z => z = Sum.inr ((g, cm, ps, ()), (c, ()))) (fun i hI => by
      obtain ⟨j, rfl, hj⟩ := hI
      unfold R27
      refine led_dif (fun q1 => ?_) (fun q1 => led_x rfl)
      have hjn : j < n := by omega
      have hw : IntKind.wrap .i64 ((j : Int) + 1) = (j : Int) + 1 := wr (by omega) (by omega)
      have h1 := h j hjn
      have a1 : (0 : Int) ≤ (j : Int) := by omega
      have a2 : (j : Int) < (c.length : Int) := by omega
      have b1 : ¬ b.getD j 0 < 0 := by omega
      have b2 : ¬ b.getD j 0 > c.getD j 0 := by omega
      simp only [Int.toNat_natCast, hw, a1, a2, q1, b1, b2, decide_false, Bool.false_eq_true, if_true, if_false]
      exact led_k ⟨_, rfl, ⟨j + 1, by omega, by omega⟩, by omega⟩) 0 ⟨0, rfl, by omega⟩
  obtain ⟨z, hz, rfl⟩ := key
  exact hz
theorem holds (n : Int) (l : List (Int × Int)) (order : List Int) (w0 : (Lit.int .i64 n).wf = true) (w1 : l.length ≤ maxLen ∧ ∀ x ∈ l, (Lit.int .i64 x.1).wf = true ∧ (Lit.int .i64 x.2).wf = true) (w2 : order.length ≤ maxLen ∧ ∀ x ∈ order, (Lit.int .i64 x).wf = true) : pre n l order = true ∧ fn n l order = (true, ()) := by
  refine is_fn _ _ _ ?_
  unfold run'
  obtain ⟨G, hG, hn, hp, hf⟩ := made6.is n l
  have hn2 : G.n ≤ 4096 := by omega
  have hl := coresOf_len hG hn2
  obtain ⟨m1, m2, m3, m4, m5⟩ := max_cores hG hn2
  obtain ⟨D, hD⟩ : ∃ D : Nat, maxTo 0 (coresOf G) = (D : Int) := ⟨(maxTo 0 (coresOf G)).toNat, by omega⟩
  have hb := order_behind hG hn2
  have o := OrderP.is hG hn2
  have t := TriP.is hG hn2
  obtain ⟨sl, hs, sp⟩ := shufL.is hn order
  obtain ⟨at1, cl1, e1, p1, g1⟩ := ColP.is hG hn2 sp
  obtain ⟨at2, cl2, e2, p2, g2⟩ := ColP.is hG hn2 hb.perm
  have f13 := F13_is hG hn (r0 := coresOf G) g1 g2
  have f27 := F27_is hn2 (g := some G) (cm := ((sumP G.n (qAll G) G.pairs : Nat) : Int)) (ps := upP G.pairs) hl g2.len (fun v hv => by
    have h1 := g2.rng v hv
    have h2 := later_le hG hb p2 hv
    omega)
  have gr := greatL.is (l := coresOf G) (by omega)
  rw [hD] at gr
  have hcm := common_is hG
  have htl := tri_le hG hn2 hD
  have hps : G.pairs.length ≤ 14400 := Nat.le_trans (edges_le G) (Nat.mul_le_mul hn hn)
  have hul : (upP G.pairs).length = G.pairs.length := by unfold upP; rw [List.length_map]
  have hDm : D * G.pairs.length ≤ 4096 * 14400 := Nat.mul_le_mul (by omega) hps
  have i1 : (D : Int) * ((upP G.pairs).length : Int) = ((D * G.pairs.length : Nat) : Int) := by rw [hul]; omega
  have v1 : IntKind.wrap .i64 ((D : Int) * ((upP G.pairs).length : Int)) = ((D * G.pairs.length : Nat) : Int) := by rw [i1, wr (by omega) (by omega)]
  have v2 : IntKind.wrap .i64 ((3 : Int) * (triOf G : Int)) = ((3 * triOf G : Nat) : Int) := by rw [wr (by omega) (by omega)]; omega
  have b1 : (((sumP G.n (qAll G) G.pairs : Nat) : Int) == ((3 * triOf G : Nat) : Int)) = true := by rw [hcm]; simp
  have b2 : ((triOf G : Int) ≤ ((D * G.pairs.length : Nat) : Int)) := by omega
  have hpP : Pairs.pre (some G) = true ∧ Pairs.fn (some G) = (upP G.pairs, ()) := ⟨show (true && decide (G.n ≤ 4096)) = true by rw [decide_eq_true hn2]; rfl, rfl⟩
  simp only [first6.is.1, first6.is.2, hp, hf, Bool.not_true, Option.isNone_some, (cores_fn hn2).1, (cores_fn hn2).2, (n_fn G).1, (n_fn G).2, o.1, o.2, hs.1, hs.2, e1.1, e1.2, e2.1, e2.2, (num6.is _).1, (num6.is _).2, g1.len, g2.len, hl, bne_self_eq_false, hpP.1, hpP.2, f13, f27, t.1, t.2, v2, b1, gr.1, gr.2, v1, b2, decide_true, if_true, if_false, Bool.false_eq_true]
end PeelColours
end Go.Proofs.Ythbojpaghbbnnaa.Z
namespace Go.Proofs.Ythbojpaghbbnnaa.Z
open Go Go.RowKit Go.ChangeShapes Go.WideShapes Go.ChangeAt
set_option linter.unusedVariables false
set_option linter.unusedSimpArgs false
section
variable {ρ : Obs} {H : Type} {enc : TypeId × Value → H} {P : Program} {w : World}
abbrev U0 : Nat → Prop := fun _ => False
/-- Cells that are read as of type id are a plain value, of which W holds. -/
def Opens (ρ : Obs) (enc : TypeId × Value → H) (P : Program) (w : World) (id : TypeId) (t : T) (W : t.den → Prop) : Prop :=
  ∀ (fuel : Nat) (cs : List Value) (x : DataW H × List MemPlace), DataW.trod enc P w 0 (fun _ => true) true fuel id cs = some x → ∃ y : t.den, ICs ρ U0 w t cs y ∧ W y
theorem opens_int {id : TypeId} {k : IntKind} (h : P.underlying id = some (.int k)) : Opens ρ enc P w id (.int k) (fun x : Int => (Lit.int k x).wf = true) := by
  intro fuel cs x hx
  obtain ⟨n, rfl, _, hw⟩ := DataW.trod_int h hx
  exact ⟨n, rfl, hw⟩
theorem opens_bool {id : TypeId} (h : P.underlying id = some .bool) : Opens ρ enc P w id .bool (fun _ => True) := by
  intro fuel cs x hx
  obtain ⟨b, rfl, _⟩ := DataW.trod_bool h hx
  exact ⟨b, rfl, trivial⟩
theorem opens_two {id : TypeId} {f0 f1 : Field} {t0 t1 : T} {W0 : t0.den → Prop} {W1 : t1.den → Prop} (h : P.underlying id = some (.struct #[f0, f1])) (hc : P.cellsOf id = P.cellsOf f0.type + P.cellsOf f1.type)
    (o0 : f0.offset = 0) (o1 : f1.offset = P.cellsOf f0.type) (h0 : Opens ρ enc P w f0.type t0 W0) (h1 : Opens ρ enc P w f1.type t1 W1) : Opens ρ enc P w id (.pair t0 t1) (fun x => W0 x.1 ∧ W1 x.2) := by
  intro fuel cs x hx
  obtain ⟨xs, n, _, _, hl, hxl, hf⟩ := DataW.trod_struct h hx
  have g0 := hf 0 f0 rfl
  have g1 := hf 1 f1 rfl
  rw [o0, List.drop_zero, List.getElem?_eq_getElem (by rw [hxl]; simp)] at g0
  rw [o1, List.take_of_length_le (by rw [List.length_drop]; omega), List.getElem?_eq_getElem (by rw [hxl]; simp)] at g1
  obtain ⟨y0, q0, k0⟩ := h0 _ _ _ g0
  obtain ⟨y1, q1, k1⟩ := h1 _ _ _ g1
  exact ⟨(y0, y1), ⟨_, _, (List.take_append_drop _ _).symm, q0, q1⟩, k0, k1⟩
theorem opens_three {id : TypeId} {f0 f1 f2 : Field} {t0 t1 t2 : T} {W0 : t0.den → Prop} {W1 : t1.den → Prop} {W2 : t2.den → Prop} (h : P.underlying id = some (.struct #[f0, f1, f2]))
    (hc : P.cellsOf id = P.cellsOf f0.type + P.cellsOf f1.type + P.cellsOf f2.type) (o0 : f0.offset = 0) (o1 : f1.offset = P.cellsOf f0.type) (o2 : f2.offset = P.cellsOf f0.type + P.cellsOf f1.type)
    (h0 : Opens ρ enc P w f0.type t0 W0) (h1 : Opens ρ enc P w f1.type t1 W1) (h2 : Opens ρ enc P w f2.type t2 W2) : Opens ρ enc P w id (.pair t0 (.pair t1 t2)) (fun x => W0 x.1 ∧ W1 x.2.1 ∧ W2 x.2.2) := by
  intro fuel cs x hx
  obtain ⟨xs, n, _, _, hl, hxl, hf⟩ := DataW.trod_struct h hx
  have g0 := hf 0 f0 rfl
  have g1 := hf 1 f1 rfl
  have g2 := hf 2 f2 rfl
  rw [o0, List.drop_zero, List.getElem?_eq_getElem (by rw [hxl]; simp)] at g0
  rw [o1, List.getElem?_eq_getElem (by rw [hxl]; simp)] at g1
  rw [o2, List.take_of_length_le (by rw [List.length_drop]; omega), List.getElem?_eq_getElem (by rw [hxl]; simp), ← List.drop_drop] at g2
  obtain ⟨y0, q0, k0⟩ := h0 _ _ _ g0
  obtain ⟨y1, q1, k1⟩ := h1 _ _ _ g1
  obtain ⟨y2, q2, k2⟩ := h2 _ _ _ g2
  exact ⟨(y0, y1, y2), ⟨_, _, (List.take_append_drop _ _).symm, q0, _, _, (List.take_append_drop _ _).symm, q1, q2⟩, k0, k1, k2⟩
theorem cell_spot {a : Addr} {v : Value} (h : w.cell? a = some v) : a.spot = none := by
  unfold World.cell? at h
  split at h
  · split at h
    · cases h
    · rename_i hs
      cases hsp : a.spot with
      | none => rfl
      | some x => rw [hsp] at hs; simp at hs
  · cases h
theorem add_add (a : Addr) (m n : Nat) : (a.add m).add n = a.add (m + n) := by
  unfold Addr.add
  by_cases hm : m = 0
  · subst hm
    simp
  · by_cases hn : n = 0
    · subst hn
      simp
    · rw [if_neg hm, if_neg hn, if_neg (by omega)]
      simp only [Addr.mk.injEq]
      exact ⟨trivial, by omega, trivial⟩
theorem opens_list {id e : TypeId} {t : T} {W : t.den → Prop} (h : P.underlying id = some (.slice e)) (hc : P.cellsOf e = t.size) (he : Opens ρ enc P w e t W) : Opens ρ enc P w id (.list t) (fun xs => List.length xs ≤ maxLen ∧ ∀ x ∈ xs, W x) := by
  intro fuel cs x hx
  rcases DataW.trod_slice h hx with ⟨rfl, _⟩ | ⟨a, len, cap, elems, rest, n, _, rfl, _, _, hl, hm, hlen, hel, _, _⟩
  · exact ⟨([] : List t.den), ⟨none, 0, [], rfl, Nat.zero_le _, Nat.le_refl _, rfl, fun h => absurd h (by simp)⟩, Nat.zero_le _, by simp⟩
  · have key : ∀ k, k ≤ len → ∃ (ds : List Value) (ys : List t.den), ys.length = k ∧ Els (ICs ρ U0 w t) ds ys ∧ (∀ x ∈ ys, W x) ∧ ∀ j, j < ds.length → w.cell? (a.add j) = ds[j]? := by
      intro k
      induction k with
      | zero => exact fun _ => ⟨[], [], rfl, rfl, by simp, by simp⟩
      | succ k ih =>
        intro hk
        obtain ⟨ds, ys, h1, h2, h3, h4⟩ := ih (by omega)
        have h5 := hel k (by omega)
        rw [List.getElem?_eq_getElem (by omega), Option.bind_eq_some_iff] at h5
        obtain ⟨c, h6, h7⟩ := h5
        obtain ⟨y, q, wy⟩ := he _ _ _ h7
        obtain ⟨_, hcl, hcell⟩ := World.cells?_some h6
        have hdl : ds.length = k * t.size := by rw [Els.length (fun _ _ q => ICs.length q) h2, h1]
        refine ⟨ds ++ c, ys ++ [y], by simp [h1], h2.append ⟨c, [], by simp, q, rfl⟩, fun x hx => ?_, fun j hj => ?_⟩
        · rcases List.mem_append.1 hx with hx | hx
          · exact h3 x hx
          · rw [List.mem_singleton] at hx; subst hx; exact wy
        · by_cases hj1 : j < ds.length
          · rw [List.getElem?_append_left hj1]
            exact h4 j hj1
          · rw [List.getElem?_append_right (by omega)]
            have := hcell (j - ds.length) (by rw [List.length_append] at hj; omega)
            rw [add_add, hc, ← hdl, show ds.length + (j - ds.length) = j by omega] at this
            exact this
    obtain ⟨ds, ys, h1, h2, h3, h4⟩ := key len (Nat.le_refl _)
    subst h1
    have hdl : ds.length = ys.length * t.size := Els.length (fun _ _ q => ICs.length q) h2
    refine ⟨ys, ⟨some a, cap, ds, rfl, by omega, hl, h2, fun hp => ?_⟩, by omega, h3⟩
    have hd : 0 < ds.length := by rw [hdl]; exact Nat.mul_pos hp (T.size_pos t)
    have h5 := h4 0 hd
    rw [List.getElem?_eq_getElem hd, show a.add 0 = a from rfl] at h5
    have hs := cell_spot h5
    have hb := cell_lt h5
    obtain ⟨b, off, sp⟩ := a
    obtain rfl : sp = none := hs
    refine ⟨b, off, rfl, fun w' ha j hj => ?_⟩
    rw [World.cell?_of_block (ha.block b hb (fun h => h))]
    have := h4 j hj
    by_cases hj0 : j = 0
    · subst hj0; exact this
    · unfold Addr.add at this
      rw [if_neg hj0] at this
      exact this
/-- An argument's own value. -/
theorem ird_of {id : TypeId} {t : T} {W : t.den → Prop} {v : Value} {d : DataW H} {p : List MemPlace} (h : Opens ρ enc P w id t W) (hv : v = pack t v.cells.toList) (hd : DataW.Trod enc P w 0 (fun _ => true) true id v d p) : ∃ y, IRd ρ U0 w t v y ∧ W y := by
  obtain ⟨fuel, hf⟩ := hd
  obtain ⟨y, q, hy⟩ := h _ _ _ hf
  exact ⟨y, ⟨_, hv, q⟩, hy⟩
theorem lit_wf {x : Int} (h : (Lit.int .i64 x).wf = true) : Wf x := by
  unfold Wf
  simp [Lit.wf, IntKind.min, IntKind.max, IntKind.signed, IntKind.bits] at h
  omega
end
/-- The walk of a statement: a plain function that tells true of all plain values that may be handed in. -/
theorem calls_true {P : Program} {ρ : Obs} {f : FuncId} {ps : List PM} {pre : Ds (ps.map PM.ty) → Bool} {fn : Ds (ps.map PM.ty) → Ds (muts ps ++ ([.val .bool] : List PM).map PM.ty)} (hs : Sound P ρ f ⟨ps, [.val .bool], pre, fn, false⟩) (hn : nOwn ps = 0)
    (d : Ds (ps.map PM.ty)) (hp : pre d = true) (hf : (dr (fn d)).1 = true) (w : World) (vs : List Value) (ha : ArgsOk ρ U0 w (fun _ => nilV) ps d vs 0) : Calls P f vs.toArray w fun e w' => e = .returned (.bool true) ∧ Below w.heap.size w w' := by
  have ap : Apart (nOwn ps) (fun _ => nilV) := by rw [hn]; exact apart0 _
  refine (hs d hp w U0 U0 (fun _ => nilV) vs (fun _ h => h.elim) (fun _ h => h.elim) (fun _ _ h => h) ap ?_).mono ?_
  · have e : Us U0 (nOwn ps) (fun _ => nilV) = U0 := by
      funext b
      refine propext ⟨fun h => h.elim id (fun ⟨i, hi, _⟩ => by rw [hn] at hi; exact absurd hi (Nat.not_lt_zero i)), fun h => h.elim⟩
    show ArgsOk ρ (Us U0 (nOwn ps) (fun _ => nilV)) w (fun _ => nilV) ps d vs 0
    rw [e]
    exact ha
  · rintro e w' ⟨rvs, hd', rfl, hag, _, _, _, _, hr⟩
    match rvs, hr with
    | [v], ⟨h1, _⟩ =>
      refine ⟨?_, hag.below (fun b _ hb => hb.elim id (fun ⟨i, hi, _⟩ => by
        have hi' : i < nOwn ps := hi
        rw [hn] at hi'
        exact absurd hi' (Nat.not_lt_zero i)))⟩
      obtain rfl := h1.bool
      have e : (dr (fn d)).1 = true := hf
      show Ending.returned (.bool (dr (fn d)).1) = _
      rw [e]
end Go.Proofs.Ythbojpaghbbnnaa.Z
namespace Go.Proofs.Ythbojpaghbbnnaa.peelColours
open Go Go.ChangeShapes Go.WideShapes Go.ChangeAt Go.RowKit Go.Proofs.Ythbojpaghbbnnaa.Z
set_option linter.unusedVariables false
set_option maxRecDepth 100000 in
theorem lifted (os : Os) (started : os.Started) (H : Type) (enc : TypeId × Value → H) :
    ReturnsInHanded {} Try.checked os 30 .any (Rows.peelColoursSpec.pre6 enc Try.prog Try.f30 Rows.peelColoursRow.domain false) (Rows.peelColoursSpec.post enc Try.prog Try.f30 false true false false) := by
  refine returnsInHanded_of_change_sized (C := Try.checked) Facts.own started (by kernel_rfl) Try.func30
    (ChangeSpec.witness6 (enc := enc) (C := Try.checked) false ⟨#[], #[.int .i64 0, .slice none 0 0, .slice none 0 0], []⟩ 8 (by kernel_rfl) (by kernel_rfl) (by kernel_rfl) (by kernel_rfl)) ?_
  intro W base args ds gs before hval0 hW hcnd hsz0 _
  have hval : ∀ (j : Nat) t v, Try.f30.params[j]? = some t → args[j]? = some v → Value.okWide Try.prog W .any base t v := hval0
  have hW' := hW
  obtain ⟨p, q, hA0, hV, rfl, hfz, hnd⟩ := hW
  have hA : DataW.TrodAll enc Try.prog W 0 (fun _ => true) true Try.f30.params.toList args.toList ds p := hA0
  rw [Try.params30] at hA hval
  obtain ⟨v0, vs0, d0, ds0, p0, q0, hargs, rfl, rfl, h0, r0⟩ := trodAll_cons hA
  obtain ⟨v1, vs1, d1, ds1, p1, q1, rfl, rfl, rfl, h1, r1⟩ := trodAll_cons r0
  obtain ⟨v2, vs2, d2, ds2, p2, q2, rfl, rfl, rfl, h2, r2⟩ := trodAll_cons r1
  obtain ⟨rfl, rfl, rfl⟩ := trodAll_nil r2
  obtain rfl : args = #[v0, v1, v2] := by cases args; simp_all
  obtain ⟨rfl, rfl⟩ := trodVars_none hV
  have k0 := h0
  have lt0 : ∀ x ∈ p0, x.block < W.heap.size := by obtain ⟨m, hm⟩ := k0; exact DataW.trod_lt m _ _ _ hm
  obtain ⟨y0, e0⟩ := okWide_int Try.underlying3 (hval 0 3 v0 rfl rfl)
  subst e0
  obtain ⟨x0, g0, w0⟩ := ird_of (ρ := rho) (opens_int Try.underlying3) rfl h0
  have k1 := h1
  have lt1 : ∀ x ∈ p1, x.block < W.heap.size := by obtain ⟨m, hm⟩ := k1; exact DataW.trod_lt m _ _ _ hm
  obtain ⟨a1, len1, cap1, e1⟩ := okWide_slice Try.underlying23 (hval 1 23 v1 rfl rfl)
  subst e1
  obtain ⟨x1, g1, w1⟩ := ird_of (ρ := rho) (opens_list (ρ := rho) Try.underlying23 (by kernel_rfl) (opens_two (ρ := rho) Try.underlying32 (by kernel_rfl) rfl rfl (opens_int Try.underlying3) (opens_int Try.underlying3))) rfl h1
  have k2 := h2
  have lt2 : ∀ x ∈ p2, x.block < W.heap.size := by obtain ⟨m, hm⟩ := k2; exact DataW.trod_lt m _ _ _ hm
  obtain ⟨a2, len2, cap2, e2⟩ := okWide_slice Try.underlying25 (hval 2 25 v2 rfl rfl)
  subst e2
  obtain ⟨x2, g2, w2⟩ := ird_of (ρ := rho) (opens_list (ρ := rho) Try.underlying25 (by kernel_rfl) (opens_int Try.underlying3)) rfl h2
  clear hA0 hval0
  obtain ⟨hp, hf⟩ := PeelColours.holds x0 x1 x2 w0 w1 w2
  refine (calls_true (PeelColours.okR).2 rfl (x0, x1, x2, ()) hp (congrArg (·.1) hf) W [.int .i64 y0, .slice a1 len1 cap1, .slice a2 len2 cap2] ⟨g0, g1, g2, trivial⟩).mono fun e W' ⟨he, bel⟩ => ?_
  subst he
  exact ⟨_, rfl, _, _, _, [], _, [], hW', trodAll_mk1 (shut_bool Try.underlying4 _), (trodAll_cons_mk (Below.trod Facts.laidOut (by kernel_rfl) (of_decide_eq_true (by kernel_rfl)) k0 bel lt0) (trodAll_cons_mk (Below.trod Facts.laidOut (by kernel_rfl) (of_decide_eq_true (by kernel_rfl)) k1 bel lt1) (trodAll_cons_mk (Below.trod Facts.laidOut (by kernel_rfl) (of_decide_eq_true (by kernel_rfl)) k2 bel lt2) trodAll_mk0))), rfl, bel.frame _, fun h => by cases h⟩
theorem joined : joinedFacts Try.prog 30 Try.f30 Rows.peelColoursSpec Rows.peelColoursRow = true :=
  Facts.joined_of Facts.heads Facts.laidOut Facts.mapsRowed Facts.stops Facts.stopKnobs Facts.stopsHeard Facts.plainKeys rfl rfl rfl rfl rfl rfl
    (by kernel_rfl) (by kernel_rfl) (by kernel_rfl) (by kernel_rfl) (by kernel_rfl) (by kernel_rfl) (by kernel_rfl)
theorem over : Rows.peelColoursRow.holds Try.pinned (OpenSpec.ofChange Rows.peelColoursSpec) :=
  OpenClaim.holds_of_wide 30 Try.f30 rfl rfl rfl rfl rfl rfl rfl ⟨rfl, rfl, rfl, rfl, rfl⟩ rfl rfl rfl rfl rfl (by kernel_rfl) Try.func30 joined
    (of_decide_eq_true (by kernel_rfl)) (by unfold Func.isWrapper; first | (rw [if_pos (by decide +kernel)]; kernel_rfl) | (rw [if_neg (by decide +kernel)]; exact ⟨rfl, rfl⟩))
    (fun os started H enc _ => lifted os started H enc)
theorem proved : Rows.PeelColoursSaid := over
#print axioms proved
end Go.Proofs.Ythbojpaghbbnnaa.peelColours
namespace Go.Proofs.Ythbojpaghbbnnaa
/-- The row, under a short name, for the claim. -/
theorem peelColours_holds : Rows.PeelColoursSaid := peelColours.proved
end Go.Proofs.Ythbojpaghbbnnaa
