/- Plain law: HindexSteps answers true. No condition. -/
import Derived.Test.YthbojpaghbbnnaaVE
namespace Go.Proofs.Ythbojpaghbbnnaa.Z
open Go Go.RowKit Hx
set_option linter.unusedVariables false
set_option linter.unusedSimpArgs false
namespace HindexSteps
theorem F10_is {n e : Int} {G : Gr} (hG : G.Ok) (hn : (G.n : Int) = n) (hs : G.n ≤ 400) {est R F : List Int} (hel : est.length = G.n) :
    F10 n (some G) (listsOf G) e false 0 R F est = some ((some G, e, anyTo (nbG G) G.n, ()), (R, F, clip (nbG G) G.n est, ())) := by
  have hln := (lok_listsOf hG (by omega)).len
  have key := F10_inv (n0 := n) (g8 := some G) (lists9 := listsOf G) (e13 := e) (r0 := R) (r1 := F) (fun a v r => 0 ≤ v ∧ v ≤ n ∧ r.length = G.n ∧ a = anyTo (nbG G) v.toNat ∧ ∀ j, j < G.n → r.getD j 0 = if j < v.toNat then min (est.getD j 0) ((nbG G j).length : Int) else est.getD j 0) (fun _ v _ => n.toNat - v.toNat)
    (fun z => z = ((some G, e, anyTo (nbG G) G.n, ()), (R, F, clip (nbG G) G.n est, ()))) (fun a v r hi => by
      obtain ⟨h0, h1, h2, rfl, h3⟩ := hi
      obtain ⟨k, rfl⟩ := Int.eq_ofNat_of_zero_le h0
      unfold R10
      have ek : List.getD (listsOf G) (Int.toNat (k : Int)) [] = nbG G k := congrFun (nbl_listsOf hG) k
      simp only [ek]
      simp only [Int.toNat_natCast] at h3 ⊢
      refine led_dif (fun q1 => ?_) (fun q1 => led_x ?_)
      · have hw : IntKind.wrap .i64 ((k : Int) + 1) = (k : Int) + 1 := wr (by omega) (by omega)
        have p1 : (k : Int) < (r.length : Int) := by omega
        have p2 : (k : Int) < ((listsOf G).length : Int) := by omega
        have p3 : k < r.length := by omega
        have hi1 : ((k : Int) + 1).toNat = k + 1 := by omega
        have ea : anyTo (nbG G) ((k : Int) + 1).toNat = (anyTo (nbG G) k || decide (((nbG G k).length : Int) > 0)) := by
          rw [hi1, anyTo_succ]
          congr 1
          exact decide_eq_decide.2 (by omega)
        have b := h3 k (by omega)
        rw [if_neg (by omega)] at b
        have put1 : r.getD k 0 > ((nbG G k).length : Int) → ∀ j, j < G.n → (r.set k ((nbG G k).length : Int)).getD j 0 = if j < ((k : Int) + 1).toNat then min (est.getD j 0) ((nbG G j).length : Int) else est.getD j 0 := fun hgt j hj => by
          rw [getD_setP, hi1]
          split
          · rename_i q; rw [← q.1, if_pos (by omega)]; omega
          · rename_i q
            rw [h3 j hj]
            by_cases q2 : j < k
            · rw [if_pos q2, if_pos (by omega)]
            · rw [if_neg q2, if_neg (by omega)]
        have put2 : ¬ r.getD k 0 > ((nbG G k).length : Int) → ∀ j, j < G.n → r.getD j 0 = if j < ((k : Int) + 1).toNat then min (est.getD j 0) ((nbG G j).length : Int) else est.getD j 0 := fun hgt j hj => by
          rw [h3 j hj, hi1]
          by_cases q2 : j < k
          · rw [if_pos q2, if_pos (by omega)]
          · rw [if_neg q2]
            by_cases q3 : j = k
            · subst q3; rw [if_pos (by omega)]; omega
            · rw [if_neg (by omega)]
        simp only [hw, h0, p1, p2, p3, if_true]
        refine led_dif (fun q2 => ?_) (fun q2 => ?_)
        · cases ha : anyTo (nbG G) k with
          | false =>
            rw [ha, Bool.false_or] at ea
            simp only [if_true]
            exact led_k ⟨_, _, _, rfl, ⟨by omega, by omega, by rw [List.length_set]; exact h2, ea.symm, put1 q2⟩, by omega⟩
          | true =>
            rw [ha, Bool.true_or] at ea
            simp only [Bool.true_eq_false, if_false]
            exact led_k ⟨_, _, _, rfl, ⟨by omega, by omega, by rw [List.length_set]; exact h2, ea.symm, put1 q2⟩, by omega⟩
        · cases ha : anyTo (nbG G) k with
          | false =>
            rw [ha, Bool.false_or] at ea
            simp only [if_true]
            exact led_k ⟨_, _, _, rfl, ⟨by omega, by omega, h2, ea.symm, put2 q2⟩, by omega⟩
          | true =>
            rw [ha, Bool.true_or] at ea
            simp only [Bool.true_eq_false, if_false]
            exact led_k ⟨_, _, _, rfl, ⟨by omega, by omega, h2, ea.symm, put2 q2⟩, by omega⟩
      · have ek : k = G.n := by omega
        subst ek
        have : r = clip (nbG G) G.n est := list_ext_getD (by rw [h2, clip_len]) (fun j hj => by
          rw [h2] at hj
          rw [h3 j hj, clip_getD, if_pos hj, if_pos hj])
        rw [this]) false 0 est ⟨by omega, by omega, hel, rfl, fun j _ => by simp⟩
  obtain ⟨z, hz, hq⟩ := key
  rw [hz, hq]
theorem F16_is {G : Gr} (hG : G.Ok) (hs : G.n ≤ 400) {e : Int} {R F : List Int} (hF : F.length ≤ 1099511627777) {a : Bool} {now : List Int} (hl : now.length = G.n) (hr : ∀ j, 0 ≤ now.getD j 0 ∧ now.getD j 0 ≤ 1048576) (ha1 : a = true → Runs (nbG G) G.n now R F) (ha2 : a = false → now = R ∧ F = []) :
    ∃ a' i' now', F16 (some G) e a 0 R F now = some (Sum.inr ((e, a', i', ()), (R, F, now', ()))) ∧ (a' = false → now' = R ∧ i' = F.length) := by
  have key := F16_inv (g8 := some G) (e13 := e) (r0 := R) (r1 := F) (fun a i r => 0 ≤ i ∧ i ≤ F.length ∧ r.length = G.n ∧ (∀ j, 0 ≤ r.getD j 0 ∧ r.getD j 0 ≤ 1048576) ∧ (a = true → Runs (nbG G) G.n r R (F.drop i.toNat)) ∧ (a = false → r = R ∧ i = F.length)) (fun _ i _ => F.length - i.toNat)
    (fun z => ∃ a' i' now', z = Sum.inr ((e, a', i', ()), (R, F, now', ())) ∧ (a' = false → now' = R ∧ i' = F.length)) (fun a i r hi => by
      obtain ⟨h0, h1, h2, h3, h4, h5⟩ := hi
      unfold R16
      cases a with
      | false =>
        simp only [Bool.false_eq_true, if_false]
        exact led_x ⟨_, _, _, rfl, fun _ => h5 rfl⟩
      | true =>
        simp only [if_true]
        refine led_dif (fun q1 => ?_) (fun q1 => led_x ⟨_, _, _, rfl, fun h => by cases h⟩)
        obtain ⟨k, rfl⟩ := Int.eq_ofNat_of_zero_le h0
        have hR := h4 rfl
        simp only [Int.toNat_natCast] at hR ⊢
        have hnn := fun j => (h3 j).1
        have s := SweepH.is hG (by omega) (est := r) (wf_small h3) (by omega)
        have hmr : mayB G r = true := mayB_iff.2 ⟨h2, fun x hx => by
          obtain ⟨j, _, rfl⟩ := (mem_idx 0).1 hx
          exact hnn j⟩
        rw [if_pos hmr] at s
        have a1 := sweepTo_len (nbG G) r G.n
        have a2 := sweepTo_nonneg (nbs := nbG G) hnn G.n (by omega)
        have a3 := sweepTo_le (nbG G) r G.n (by omega)
        have hlt : k < F.length := by
          rcases Nat.lt_or_ge k F.length with q | q
          · exact q
          · rw [List.drop_eq_nil_of_le q] at hR; cases hR
        rw [drop_getD 0 F k hlt] at hR
        have hw : IntKind.wrap .i64 ((k : Int) + 1) = (k : Int) + 1 := wr (by omega) (by omega)
        have d1 : decide ((k : Int) ≥ (F.length : Int)) = false := decide_eq_false (by omega)
        have p1 : (k : Int) < (F.length : Int) := by omega
        have hi1 : ((k : Int) + 1).toNat = k + 1 := by omega
        have fin : ∀ S : List Int × Int × Bool, sweepTo (nbG G) r G.n = S → S.2.1 = F.getD k 0 ∧ (S.2.2 = true → Runs (nbG G) G.n S.1 R (F.drop (k + 1))) ∧ (S.2.2 = false → S.1 = R ∧ k + 1 = F.length) := fun S hS => by
          subst hS
          generalize hd : F.drop (k + 1) = D at *
          generalize hx : F.getD k 0 = x at *
          cases hR with
          | stop h =>
            rw [h]
            refine ⟨rfl, fun q => (by cases q), fun _ => ⟨rfl, ?_⟩⟩
            have := congrArg List.length hd
            rw [List.length_drop] at this
            simp at this
            omega
          | more h h' =>
            rw [h]
            exact ⟨rfl, fun _ => h', fun q => (by cases q)⟩
        obtain ⟨f1, f2, f3⟩ := fin _ rfl
        generalize sweepTo (nbG G) r G.n = S at *
        have g1 : (F.getD k 0 != S.2.1) = false := by rw [f1]; simp
        simp only [s.1, s.2, (num7.is _).1, (num7.is _).2, hw, h0, p1, d1, g1, if_true, if_false, Bool.false_eq_true, bne_self_eq_false]
        exact led_k ⟨_, _, _, rfl, ⟨by omega, by omega, by omega, fun j => ⟨a2 j, Int.le_trans (a3 j) (h3 j).2⟩, fun q => by rw [hi1]; exact f2 q, fun q => by have := f3 q; exact ⟨this.1, by omega⟩⟩, by omega⟩) a 0 now ⟨by omega, by omega, hl, hr, fun h => ha1 h, fun h => by
        obtain ⟨e1, e2⟩ := ha2 h
        exact ⟨e1, by rw [e2]; rfl⟩⟩
  obtain ⟨z, hz, a', i', now', hq, h⟩ := key
  exact ⟨a', i', now', by rw [hz, hq], h⟩
set_option maxHeartbeats 4000000 in
theorem holds (n : Int) (l : List (Int × Int)) (est : List Int) (w0 : (Lit.int .i64 n).wf = true) (w1 : l.length ≤ maxLen ∧ ∀ x ∈ l, (Lit.int .i64 x.1).wf = true ∧ (Lit.int .i64 x.2).wf = true) (w2 : est.length ≤ maxLen ∧ ∀ x ∈ est, (Lit.int .i64 x).wf = true) : pre n l est = true ∧ fn n l est = (true, ()) := by
  refine is_fn _ _ _ ?_
  unfold run'
  have hmp : Made7.pre n l = true := rfl
  have ft := fits.is (l := est) (n := n) (by have := w2.1; unfold maxLen at this; omega)
  by_cases hm : madeOk n l = true
  · have hG := madeG_ok hm
    obtain ⟨⟨h0, h1⟩, h2⟩ := madeOk_iff.1 hm
    have hGs : (madeG n l).n ≤ 400 := by rw [madeG_n]; omega
    have hn : ((madeG n l).n : Int) = n := by rw [madeG_n]; omega
    have hn0 : Option.isNone (some (madeG n l)) = false := rfl
    have hy := Made7.yes hm
    rw [fits_may hm est] at ft
    by_cases hmay : mayB (madeG n l) est = true
    · rw [hmay] at ft
      generalize madeG n l = G at *
      obtain ⟨hel, he0⟩ := mayB_iff.1 hmay
      have he := getD_nonneg he0
      have hpl : IntsO.pre est = true := decide_eq_true (by omega)
      obtain ⟨R0, F0, hR⟩ := runs_ex (nbs := nbG G) (clip_len (nbG G) G.n est) (clip_nonneg he)
      have a := RunH.is hG (by omega) hmay hR
      have L := hR.left (nbG_ok hG) (clip_len _ _ _) (clip_nonneg he)
      have hc := RunH.clip_rng (G := G) (by omega) he
      have hsum := clip_sum (nbs := nbG G) (est := est) (fun v => Nat.le_trans (nbG_len v) (by omega)) (show G.n ≤ 1048576 by omega)
      have hR0 := sum_getD_nonneg L.nonneg
      have fin : ∀ (R F : List Int) (a' : Bool) (i' : Int) (now' : List Int), (a' = false → now' = R ∧ i' = F.length) → (if (0 : Int) = 0 then (if a' = false then (if decide (now' = R) = true then some (i' == (F.length : Int), ()) else some (false, ())) else some (true, ())) else some (false, ())) = some (true, ()) := fun R F a' i' now' h => by
        cases a' with
        | true => simp
        | false =>
          obtain ⟨e1, e2⟩ := h rfl
          simp [e1, e2]
      by_cases ha : anyTo (nbG G) G.n = true
      · rw [if_pos ha] at a
        have f1 := F10_is (n := n) (e := 0) hG hn hGs (R := R0) (F := F0) hel
        rw [ha] at f1
        have m := L.many
        obtain ⟨a', i', now', f2, hq⟩ := F16_is (e := 0) hG hGs (R := R0) (F := F0) (by omega) (a := true) (clip_len _ _ _) hc (fun _ => hR) (fun q => by cases q)
        have fn' := fin R0 F0 a' i' now' hq
        simp only [first7.is.1, first7.is.2, hmp, hy, hn0, ft.1, ft.2, a.1, a.2, hpl, IntsO.fn, f1, f2, (sameIs _ _).1, (sameIs _ _).2, (num7.is _).1, (num7.is _).2, beq_self_eq_true, if_true, if_false, Bool.not_true, Bool.not_false, Bool.false_eq_true, Bool.true_eq_false, bne_self_eq_false]
        simpa using fn'
      · rw [if_neg ha] at a
        have f1 := F10_is (n := n) (e := 0) hG hn hGs (R := clip (nbG G) G.n est) (F := []) hel
        rw [(Bool.not_eq_true _).mp ha] at f1
        obtain ⟨a', i', now', f2, hq⟩ := F16_is (e := 0) hG hGs (R := clip (nbG G) G.n est) (F := []) (by simp) (a := false) (clip_len _ _ _) hc (fun q => by cases q) (fun _ => ⟨rfl, rfl⟩)
        have fn' := fin _ _ a' i' now' hq
        simp only [first7.is.1, first7.is.2, hmp, hy, hn0, ft.1, ft.2, a.1, a.2, hpl, IntsO.fn, f1, f2, (sameIs _ _).1, (sameIs _ _).2, (num7.is _).1, (num7.is _).2, beq_self_eq_true, if_true, if_false, Bool.not_true, Bool.not_false, Bool.false_eq_true, Bool.true_eq_false, bne_self_eq_false]
        simpa using fn'
    · have hmay' := (Bool.not_eq_true _).mp hmay
      rw [hmay'] at ft
      simp [first7.is.1, first7.is.2, hmp, hy, ft.1, ft.2]
  · simp [first7.is.1, first7.is.2, hmp, Made7.no hm, ft.1]
end HindexSteps
end Go.Proofs.Ythbojpaghbbnnaa.Z
