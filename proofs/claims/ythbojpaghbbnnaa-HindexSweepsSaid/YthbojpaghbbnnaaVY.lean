/- Plain law: HindexSweeps answers true. No condition. -/
import Derived.Test.YthbojpaghbbnnaaVT
namespace Go.Proofs.Ythbojpaghbbnnaa.Z
open Go Go.RowKit Hx
set_option linter.unusedVariables false
set_option linter.unusedSimpArgs false
theorem est0.is {l : List Int} (h0 : 0 < l.length) (h : l.length < 2 ^ 62) : est0.pre l = true ∧ est0.fn l = (l.take (l.length - 1), ()) := est0.is_fn _ (est0.run_eq (decide_eq_true ⟨h0, h⟩))
namespace HindexSweeps
set_option maxHeartbeats 4000000 in
theorem F7_is {n at' to' : Int} {G : Gr} (hG : G.Ok) (hs : G.n ≤ 1048576) (hf : ∀ e, fits.Fn e n = mayB G e) {est r0 : List Int} (hel : est.length ≤ 16384) (hto : wf to' = true) (hl : r0.length = est.length + 1) (hw : ∀ x ∈ r0, wf x = true) :
    F7 n est at' to' (some G) (listsOf G) 0 r0 = some (Sum.inr ((), ())) := by
  have key := F7_inv (n0 := n) (est2 := est) (at3 := at') (to4 := to') (g12 := some G) (lists13 := listsOf G) (fun rd r => 0 ≤ rd ∧ rd ≤ 2 ∧ r.length = est.length + 1 ∧ ∀ x ∈ r, wf x = true) (fun rd _ => 2 - rd.toNat)
    (fun z => z = Sum.inr ((), ())) (fun rd r hi => by
      obtain ⟨h0, h1, h2, h3⟩ := hi
      unfold R7
      refine led_dif (fun q1 => ?_) (fun q1 => led_x rfl)
      have hpl : IntsO.pre r = true := decide_eq_true (by omega)
      have hw1 : IntKind.wrap .i64 ((est.length : Int) + 1) = (est.length : Int) + 1 := wr (by omega) (by omega)
      have hw2 : IntKind.wrap .i64 (rd + 1) = rd + 1 := wr (by omega) (by omega)
      have le1 : (est.length : Int) ≤ (est.length : Int) + 1 := by omega
      have le2 : (est.length : Int) + 1 ≤ (r.length : Int) := by omega
      have z0 := est0.is (l := r) (by omega) (by omega)
      rw [show r.length - 1 = est.length by omega] at z0
      generalize he : List.take est.length r = e at *
      have hle : e.length = est.length := by rw [← he, List.length_take]; omega
      have s := SweepH.is hG hs (est := e) (fun x hx => h3 x (by rw [← he] at hx; exact List.mem_of_mem_take hx)) (by omega)
      have ft := fits.is (l := e) (n := n) (by omega)
      rw [hf e] at ft
      have go0 : ∃ (rd' : Int) (r' : List Int), ((n, est, at', to', some G, listsOf G, rd + 1, ()), (r, ())) = ((n, est, at', to', some G, listsOf G, rd', ()), (r', ())) ∧ (0 ≤ rd' ∧ rd' ≤ 2 ∧ r'.length = est.length + 1 ∧ ∀ x ∈ r', wf x = true) ∧ 2 - rd'.toNat < 2 - rd.toNat := ⟨_, _, rfl, ⟨by omega, by omega, h2, h3⟩, by omega⟩
      have go1 : ∀ p : Nat, ∃ (rd' : Int) (r' : List Int), ((n, est, at', to', some G, listsOf G, rd + 1, ()), (r.set p to', ())) = ((n, est, at', to', some G, listsOf G, rd', ()), (r', ())) ∧ (0 ≤ rd' ∧ rd' ≤ 2 ∧ r'.length = est.length + 1 ∧ ∀ x ∈ r', wf x = true) ∧ 2 - rd'.toNat < 2 - rd.toNat := fun p => ⟨_, _, rfl, ⟨by omega, by omega, by rw [List.length_set]; exact h2, fun x hx => by
        rcases List.mem_or_eq_of_mem_set hx with k | k
        · exact h3 x k
        · rw [k]; exact hto⟩, by omega⟩
      have d0 : (((0 : Nat) : Int) != 0) = false := rfl
      by_cases hmay : mayB G e = true
      · rw [if_pos hmay] at s
        have hen := (mayB_iff.1 hmay).1
        have t := Sweep7.is (lok_listsOf hG hs) (est := e) hen
        rw [nbl_listsOf hG] at t
        rw [hmay] at ft
        generalize sweepTo (nbG G) e G.n = S at *
        have b1 : (S.2.1 != S.2.1) = false := by simp
        have b2 : (!S.2.2 == S.2.2) = false := by cases S.2.2 <;> rfl
        by_cases hz : est.length = 0
        · have e0 : decide ((est.length : Int) > 0) = false := decide_eq_false (by omega)
          simp only [hpl, hw1, hw2, le1, le2, Int.toNat_natCast, he, s.1, s.2, (sameIs _ _).1, (sameIs _ _).2, IntsO.fn, z0.1, z0.2, ft.1, ft.2, t.1, t.2, (num7.is _).1, (num7.is _).2, b1, b2, e0, decide_true, if_true, if_false, Bool.not_true, Bool.not_false, Bool.false_eq_true, Bool.true_eq_false, bne_self_eq_false]
          exact led_k go0
        · have e0 : decide ((est.length : Int) > 0) = true := decide_eq_true (by omega)
          have e1 : ¬ ((est.length : Int) = 0) := by omega
          obtain ⟨p, hp, ep⟩ := modN at' (n := (est.length : Int)) (by omega) (by omega)
          have p0 : (0 : Int) ≤ (p : Int) := by omega
          have p2 : (p : Int) < (r.length : Int) := by omega
          have p3 : p < r.length := by omega
          simp only [hpl, hw1, hw2, le1, le2, Int.toNat_natCast, he, s.1, s.2, (sameIs _ _).1, (sameIs _ _).2, IntsO.fn, z0.1, z0.2, ft.1, ft.2, t.1, t.2, (num7.is _).1, (num7.is _).2, b1, b2, e0, e1, ep, p0, p2, p3, decide_true, if_true, if_false, Bool.not_true, Bool.not_false, Bool.false_eq_true, Bool.true_eq_false, bne_self_eq_false]
          exact led_k (go1 p)
      · have hmay' := (Bool.not_eq_true _).mp hmay
        rw [if_neg hmay] at s
        rw [hmay'] at ft
        by_cases hz : est.length = 0
        · have e0 : decide ((est.length : Int) > 0) = false := decide_eq_false (by omega)
          simp only [hpl, hw1, hw2, le1, le2, Int.toNat_natCast, he, s.1, s.2, (sameIs _ _).1, (sameIs _ _).2, IntsO.fn, z0.1, z0.2, ft.1, ft.2, (num7.is _).1, (num7.is _).2, d0, List.length_nil, e0, decide_true, if_true, if_false, Bool.not_true, Bool.not_false, Bool.false_eq_true, Bool.true_eq_false, bne_self_eq_false]
          exact led_k go0
        · have e0 : decide ((est.length : Int) > 0) = true := decide_eq_true (by omega)
          have e1 : ¬ ((est.length : Int) = 0) := by omega
          obtain ⟨p, hp, ep⟩ := modN at' (n := (est.length : Int)) (by omega) (by omega)
          have p0 : (0 : Int) ≤ (p : Int) := by omega
          have p2 : (p : Int) < (r.length : Int) := by omega
          have p3 : p < r.length := by omega
          simp only [hpl, hw1, hw2, le1, le2, Int.toNat_natCast, he, s.1, s.2, (sameIs _ _).1, (sameIs _ _).2, IntsO.fn, z0.1, z0.2, ft.1, ft.2, (num7.is _).1, (num7.is _).2, d0, List.length_nil, e0, e1, ep, p0, p2, p3, decide_true, if_true, if_false, Bool.not_true, Bool.not_false, Bool.false_eq_true, Bool.true_eq_false, bne_self_eq_false]
          exact led_k (go1 p)) 0 r0 ⟨by omega, by omega, hl, hw⟩
  obtain ⟨z, hz, hq⟩ := key
  rw [hz, hq]
theorem holds (n : Int) (l : List (Int × Int)) (est : List Int) (at' to' : Int) (w0 : (Lit.int .i64 n).wf = true) (w1 : l.length ≤ maxLen ∧ ∀ x ∈ l, (Lit.int .i64 x.1).wf = true ∧ (Lit.int .i64 x.2).wf = true) (w2 : est.length ≤ maxLen ∧ ∀ x ∈ est, (Lit.int .i64 x).wf = true) (w3 : (Lit.int .i64 at').wf = true) (w4 : (Lit.int .i64 to').wf = true) : pre n l est at' to' = true ∧ fn n l est at' to' = (true, ()) := by
  refine is_fn _ _ _ _ _ ?_
  unfold run'
  have hmp : Made7.pre n l = true := rfl
  by_cases hm : madeOk n l = true
  · have hG := madeG_ok hm
    have hGn : (madeG n l).n ≤ 1048576 := by
      obtain ⟨⟨h0, h1⟩, h2⟩ := madeOk_iff.1 hm
      rw [madeG_n]; omega
    by_cases hl : (est.length : Int) > 16384
    · simp [first7.is.1, first7.is.2, hmp, Made7.yes hm, hl]
    · have hdl : decide ((est.length : Int) > 16384) = false := decide_eq_false hl
      have hpl : IntsO.pre est = true := decide_eq_true (by omega)
      have room : (est.length + [(-7 : Int)].length) * 8 ≤ 140737488355328 := by
        rw [show [(-7 : Int)].length = 1 from rfl]; omega
      have hn0 : Option.isNone (some (madeG n l)) = false := rfl
      have f := F7_is (n := n) (at' := at') (to' := to') hG hGn (fits_may hm) (est := est) (r0 := est ++ [(-7 : Int)]) (by omega) (wf_iff.2 (lit_wf w4)) (by simp) (fun x hx => by
        rcases List.mem_append.1 hx with k | k
        · exact wf_iff.2 (lit_wf (w2.2 x k))
        · rw [List.mem_singleton.1 k]; exact wf_iff.2 ⟨by decide, by decide⟩)
      simp only [first7.is.1, first7.is.2, hmp, Made7.yes hm, hn0, hdl, hpl, IntsO.fn, room, f, if_true, if_false, Bool.not_true, Bool.false_eq_true, Bool.true_eq_false]
  · simp [first7.is.1, first7.is.2, hmp, Made7.no hm]
end HindexSweeps
end Go.Proofs.Ythbojpaghbbnnaa.Z
