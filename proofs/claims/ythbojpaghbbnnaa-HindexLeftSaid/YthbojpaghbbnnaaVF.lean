/- Plain law: HindexLeft answers true. No condition. -/
import Derived.Test.YthbojpaghbbnnaaVE
namespace Go.Proofs.Ythbojpaghbbnnaa.Z
open Go Go.RowKit Hx
set_option linter.unusedVariables false
set_option linter.unusedSimpArgs false
theorem run_left {G : Gr} (hG : G.Ok) (hn : G.n ≤ 1048576) {est : List Int} (h : mayB G est = true) :
    ∃ R F, (RunH.pre (some G) est = true ∧ RunH.fn (some G) est = (R, F, 0, ())) ∧ R.length = G.n ∧ (∀ j, 0 ≤ R.getD j 0) ∧ (∀ j, R.getD j 0 ≤ (clip (nbG G) G.n est).getD j 0) ∧ (∀ v, v < G.n → Stable (nbG G) R v) ∧ ∀ q, Holds G.n (nbG G) q → (∀ j, j < G.n → q.getD j 0 ≤ est.getD j 0) → ∀ j, j < G.n → q.getD j 0 ≤ R.getD j 0 := by
  obtain ⟨h1, h2⟩ := mayB_iff.1 h
  have he := getD_nonneg h2
  obtain ⟨r, fs, hR⟩ := runs_ex (nbs := nbG G) (clip_len (nbG G) G.n est) (clip_nonneg he)
  have a := RunH.is hG hn h hR
  have hq : ∀ q, Holds G.n (nbG G) q → (∀ j, j < G.n → q.getD j 0 ≤ est.getD j 0) → ∀ j, j < G.n → q.getD j 0 ≤ (clip (nbG G) G.n est).getD j 0 := fun q hq hh j hj => by
    rw [clip_getD, if_pos hj]
    have a1 := hq j hj
    have a2 := over_le (vals (nbG G j) q) (q.getD j 0)
    have a4 : (vals (nbG G j) q).length = (nbG G j).length := by simp [vals]
    have a3 := hh j hj
    omega
  by_cases ha : anyTo (nbG G) G.n = true
  · rw [if_pos ha] at a
    have L := hR.left (nbG_ok hG) (clip_len _ _ _) (clip_nonneg he)
    exact ⟨r, fs, a, L.len, L.nonneg, L.le, L.stable, fun q h1 h2 => L.above q h1 (hq q h1 h2)⟩
  · rw [if_neg ha] at a
    have hz : ∀ j, (clip (nbG G) G.n est).getD j 0 ≤ 0 := fun j => by
      rw [clip_getD]
      split
      · rename_i hj
        have : (nbG G j).length = 0 := by
          have := (Bool.not_eq_true _).mp ha
          simp only [anyTo, List.any_eq_false, List.mem_range, decide_eq_true_eq] at this
          have := this j hj
          omega
        omega
      · omega
    refine ⟨_, _, a, clip_len _ _ _, clip_nonneg he, fun j => Int.le_refl _, fun v _ => ?_, hq⟩
    unfold Stable
    exact Int.le_trans (hz v) (over_nonneg _ _)
theorem over_take {nb R : List Int} {h : Int} {j : Nat} (hj : j < nb.length) : over (vals (nb.take (j + 1)) R) h = over (vals (nb.take j) R) h + if R.getD (nb.getD j 0).toNat 0 ≥ h then 1 else 0 := by
  rw [take_snoc 0 nb j hj]
  unfold vals
  rw [List.map_append, over_append, List.map_cons, List.map_nil, over_cons]
  have : over [] h = 0 := rfl
  omega
theorem over_take_le {nb R : List Int} {h : Int} (j : Nat) : over (vals (nb.take j) R) h ≤ nb.length := by
  have := over_le (vals (nb.take j) R) h
  have e : (vals (nb.take j) R).length ≤ nb.length := by simp [vals]; omega
  omega
namespace HindexLeft
theorem F17_is {n : Int} {G : Gr} (hG : G.Ok) (hs : G.n ≤ 400) {est other R : List Int} {k : Nat} (hk : k < G.n) (hRl : R.length = G.n) :
    F17 n est other (some G) (listsOf G) (k : Int) 0 0 R = some ((n, est, other, some G, listsOf G, (k : Int), over (vals (nbG G k) R) (R.getD k 0), ()), (R, ())) := by
  have hln := (lok_listsOf hG (by omega)).len
  have ek : List.getD (listsOf G) (Int.toNat (k : Int)) [] = nbG G k := congrFun (nbl_listsOf hG) k
  have hN := nbG_ok hG
  have hlen := nbG_len (G := G) k
  have hk0 : (0 : Int) ≤ (k : Int) := by omega
  have hk1 : (k : Int) < ((listsOf G).length : Int) := by omega
  have hk2 : (k : Int) < (R.length : Int) := by omega
  have key := F17_inv (n0 := n) (est2 := est) (other3 := other) (g10 := some G) (lists11 := listsOf G) (v22 := (k : Int)) (r0 := R) (fun c i => 0 ≤ i ∧ i ≤ (nbG G k).length ∧ c = over (vals ((nbG G k).take i.toNat) R) (R.getD k 0)) (fun _ i => (nbG G k).length - i.toNat)
    (fun z => z = ((n, est, other, some G, listsOf G, (k : Int), over (vals (nbG G k) R) (R.getD k 0), ()), (R, ()))) (fun c i hi => by
      obtain ⟨h0, h1, rfl⟩ := hi
      obtain ⟨j, rfl⟩ := Int.eq_ofNat_of_zero_le h0
      unfold R17
      simp only [ek]
      simp only [Int.toNat_natCast]
      refine led_need hk0 (led_need hk1 (led_dif (fun q1 => ?_) (fun q1 => led_x (by rw [take_all (by omega)]))))
      have hj : j < (nbG G k).length := by omega
      have hu := hN.rng k hk ((nbG G k).getD j 0) (mem_getD 0 _ _ hj)
      have hw : IntKind.wrap .i64 ((j : Int) + 1) = (j : Int) + 1 := wr (by omega) (by omega)
      have b0 := over_nonneg (vals ((nbG G k).take j) R) (R.getD k 0)
      have b1 := over_take_le (nb := nbG G k) (R := R) (h := R.getD k 0) j
      have hw2 : IntKind.wrap .i64 (over (vals ((nbG G k).take j) R) (R.getD k 0) + 1) = over (vals ((nbG G k).take j) R) (R.getD k 0) + 1 := wr (by omega) (by omega)
      have hi1 : ((j : Int) + 1).toNat = j + 1 := by omega
      have t := over_take (R := R) (h := R.getD k 0) hj
      rw [hw, hw2]
      refine led_need hk0 (led_need hk1 (led_need h0 (led_need (by omega) (led_need hu.1 (led_need (by omega) (led_need hk0 (led_need hk2 (led_dif (fun q3 => ?_) (fun q3 => ?_)))))))))
      · rw [if_pos q3] at t
        exact led_k ⟨_, _, rfl, ⟨by omega, by omega, by rw [hi1]; omega⟩, by omega⟩
      · rw [if_neg q3] at t
        exact led_k ⟨_, _, rfl, ⟨by omega, by omega, by rw [hi1]; omega⟩, by omega⟩) 0 0 ⟨by omega, by omega, by simp [vals, over]⟩
  obtain ⟨z, hz, hq⟩ := key
  rw [hz, hq]
theorem F13_is {n : Int} {G : Gr} (hG : G.Ok) (hn : (G.n : Int) = n) (hs : G.n ≤ 400) {est other R : List Int} (hel : est.length = G.n) (hRl : R.length = G.n) (hR0 : ∀ j, 0 ≤ R.getD j 0) (hRe : ∀ j, j < G.n → R.getD j 0 ≤ est.getD j 0) (hst : ∀ v, v < G.n → Stable (nbG G) R v) :
    F13 n est other (some G) (listsOf G) 0 R = some (Sum.inr ((n, est, other, some G, ()), (R, ()))) := by
  have key := F13_inv (n0 := n) (est2 := est) (other3 := other) (g10 := some G) (lists11 := listsOf G) (r0 := R) (fun v => 0 ≤ v ∧ v ≤ n) (fun v => n.toNat - v.toNat)
    (fun z => z = Sum.inr ((n, est, other, some G, ()), (R, ()))) (fun v hi => by
      obtain ⟨h0, h1⟩ := hi
      obtain ⟨k, rfl⟩ := Int.eq_ofNat_of_zero_le h0
      unfold R13
      refine led_dif (fun q1 => ?_) (fun q1 => led_x rfl)
      have f := F17_is (n := n) hG hs (est := est) (other := other) (k := k) (by omega) hRl
      have a1 := hR0 k
      have a2 := hRe k (by omega)
      have a3 := hst k (by omega)
      unfold Stable at a3
      have d1 : decide (R.getD k 0 < 0) = false := decide_eq_false (by omega)
      have d2 : decide (R.getD k 0 > est.getD k 0) = false := decide_eq_false (by omega)
      have d3 : decide (over (vals (nbG G k) R) (R.getD k 0) < R.getD k 0) = false := decide_eq_false (by omega)
      have p1 : (k : Int) < (R.length : Int) := by omega
      have p2 : (k : Int) < (est.length : Int) := by omega
      have hw : IntKind.wrap .i64 ((k : Int) + 1) = (k : Int) + 1 := wr (by omega) (by omega)
      simp only [f, hw, Int.toNat_natCast, h0, p1, p2, d1, d2, d3, if_true, if_false, Bool.false_eq_true]
      exact led_k ⟨_, rfl, ⟨by omega, by omega⟩, by omega⟩) 0 ⟨by omega, by omega⟩
  obtain ⟨z, hz, hq⟩ := key
  rw [hz, hq]
theorem F25_is {n : Int} {G : Gr} (hn : (G.n : Int) = n) (hs : G.n ≤ 400) {est other R : List Int} (hel : est.length = G.n) (hol : other.length = G.n) :
    ∃ low, F25 n est other (some G) 0 R (List.replicate n.toNat 0) = some ((n, some G, ()), (R, low, ())) ∧ low.length = G.n ∧ ∀ j, j < G.n → low.getD j 0 = min (est.getD j 0) (other.getD j 0) := by
  have key := F25_inv (n0 := n) (est2 := est) (other3 := other) (g10 := some G) (r0 := R) (fun v r => 0 ≤ v ∧ v ≤ n ∧ r.length = G.n ∧ ∀ j, j < v.toNat → r.getD j 0 = min (est.getD j 0) (other.getD j 0)) (fun v _ => n.toNat - v.toNat)
    (fun z => ∃ low, z = ((n, some G, ()), (R, low, ())) ∧ low.length = G.n ∧ ∀ j, j < G.n → low.getD j 0 = min (est.getD j 0) (other.getD j 0)) (fun v r hi => by
      obtain ⟨h0, h1, h2, h3⟩ := hi
      obtain ⟨k, rfl⟩ := Int.eq_ofNat_of_zero_le h0
      unfold R25
      simp only [Int.toNat_natCast] at h3 ⊢
      refine led_dif (fun q1 => ?_) (fun q1 => led_x ⟨_, rfl, h2, fun j hj => h3 j (by omega)⟩)
      have hw : IntKind.wrap .i64 ((k : Int) + 1) = (k : Int) + 1 := wr (by omega) (by omega)
      have p1 : (k : Int) < (other.length : Int) := by omega
      have p2 : (k : Int) < (r.length : Int) := by omega
      have p3 : k < r.length := by omega
      have p4 : (k : Int) < (est.length : Int) := by omega
      have g : List.getD (r.set k (other.getD k 0)) k 0 = other.getD k 0 := by rw [getD_setP, if_pos ⟨rfl, p3⟩]
      have hi1 : ((k : Int) + 1).toNat = k + 1 := by omega
      simp only [hw, h0, p1, p2, p3, p4, g, List.length_set, if_true]
      refine led_dif (fun q2 => led_k ⟨_, _, rfl, ⟨by omega, by omega, by simp only [List.length_set]; omega, fun j hj => ?_⟩, by omega⟩) (fun q2 => led_k ⟨_, _, rfl, ⟨by omega, by omega, by simp only [List.length_set]; omega, fun j hj => ?_⟩, by omega⟩)
      · rw [hi1] at hj
        rw [getD_setP]
        split
        · rename_i e; rw [← e.1]; omega
        · rename_i e
          rw [List.length_set] at e
          rw [getD_setP, if_neg (fun q => e q)]
          exact h3 j (by omega)
      · rw [hi1] at hj
        rw [getD_setP]
        split
        · rename_i e; rw [← e.1]; omega
        · rename_i e
          exact h3 j (by omega)) 0 (List.replicate n.toNat 0) ⟨by omega, by omega, by simp; omega, fun j hj => by simp at hj⟩
  obtain ⟨z, hz, low, hq, h1, h2⟩ := key
  exact ⟨low, by rw [hz, hq], h1, h2⟩
theorem F34_is {n : Int} {G : Gr} (hn : (G.n : Int) = n) (hs : G.n ≤ 400) {R Q : List Int} (hRl : R.length = G.n) (hQl : Q.length = G.n) (hle : ∀ j, j < G.n → Q.getD j 0 ≤ R.getD j 0) :
    F34 n 0 R Q = some (Sum.inr ((), ())) := by
  have key := F34_inv (n0 := n) (r0 := R) (r1 := Q) (fun v => 0 ≤ v ∧ v ≤ n) (fun v => n.toNat - v.toNat)
    (fun z => z = Sum.inr ((), ())) (fun v hi => by
      obtain ⟨h0, h1⟩ := hi
      obtain ⟨k, rfl⟩ := Int.eq_ofNat_of_zero_le h0
      unfold R34
      simp only [Int.toNat_natCast]
      refine led_dif (fun q1 => ?_) (fun q1 => led_x rfl)
      have hw : IntKind.wrap .i64 ((k : Int) + 1) = (k : Int) + 1 := wr (by omega) (by omega)
      have p1 : (k : Int) < (Q.length : Int) := by omega
      have p2 : (k : Int) < (R.length : Int) := by omega
      have d := hle k (by omega)
      have d1 : decide (Q.getD k 0 > R.getD k 0) = false := decide_eq_false (by omega)
      simp only [hw, h0, p1, p2, d1, if_true, if_false, Bool.false_eq_true]
      exact led_k ⟨_, rfl, ⟨by omega, by omega⟩, by omega⟩) 0 ⟨by omega, by omega⟩
  obtain ⟨z, hz, hq⟩ := key
  rw [hz, hq]
set_option maxHeartbeats 4000000 in
theorem holds (n : Int) (l : List (Int × Int)) (est other : List Int) (w0 : (Lit.int .i64 n).wf = true) (w1 : l.length ≤ maxLen ∧ ∀ x ∈ l, (Lit.int .i64 x.1).wf = true ∧ (Lit.int .i64 x.2).wf = true) (w2 : est.length ≤ maxLen ∧ ∀ x ∈ est, (Lit.int .i64 x).wf = true) (w3 : other.length ≤ maxLen ∧ ∀ x ∈ other, (Lit.int .i64 x).wf = true) : pre n l est other = true ∧ fn n l est other = (true, ()) := by
  refine is_fn _ _ _ _ ?_
  unfold run'
  have hmp : Made7.pre n l = true := rfl
  have ft := fits.is (l := est) (n := n) (by have := w2.1; unfold maxLen at this; omega)
  have fo := fits.is (l := other) (n := n) (by have := w3.1; unfold maxLen at this; omega)
  by_cases hm : madeOk n l = true
  · have hG := madeG_ok hm
    obtain ⟨⟨h0, h1⟩, h2⟩ := madeOk_iff.1 hm
    have hGs : (madeG n l).n ≤ 400 := by rw [madeG_n]; omega
    have hn : ((madeG n l).n : Int) = n := by rw [madeG_n]; omega
    have hn0 : Option.isNone (some (madeG n l)) = false := rfl
    have hy := Made7.yes hm
    rw [fits_may hm est] at ft
    rw [fits_may hm other] at fo
    by_cases hmay : mayB (madeG n l) est = true
    · rw [hmay] at ft
      by_cases hmay2 : mayB (madeG n l) other = true
      · rw [hmay2] at fo
        generalize madeG n l = G at *
        obtain ⟨hel, he0⟩ := mayB_iff.1 hmay
        obtain ⟨hol, ho0⟩ := mayB_iff.1 hmay2
        obtain ⟨R, F, r1, rl, rn, rc, rs, ra⟩ := run_left hG (by omega) hmay
        have hc : ∀ j, (clip (nbG G) G.n est).getD j 0 ≤ 1048576 := fun j => by
          rw [clip_getD]
          have := nbG_len (G := G) j
          split <;> omega
        have hcle : ∀ j, j < G.n → (clip (nbG G) G.n est).getD j 0 ≤ est.getD j 0 := fun j hj => by
          rw [clip_getD, if_pos hj]; omega
        have s1 := SweepH.is hG (by omega) (est := R) (wf_small (fun j => ⟨rn j, Int.le_trans (rc j) (hc j)⟩)) (by omega)
        have hmR : mayB G R = true := mayB_iff.2 ⟨rl, fun x hx => by
          obtain ⟨j, _, rfl⟩ := (mem_idx 0).1 hx
          exact rn j⟩
        rw [if_pos hmR, sweepTo_fix rn G.n rs] at s1
        have f13 := F13_is hG hn hGs (other := other) hel rl rn (fun j hj => Int.le_trans (rc j) (hcle j hj)) rs
        obtain ⟨low, f25, ll, lm⟩ := F25_is (R := R) hn hGs hel hol
        have he := getD_nonneg he0
        have ho := getD_nonneg ho0
        have hmL : mayB G low = true := mayB_iff.2 ⟨ll, fun x hx => by
          obtain ⟨j, hj, rfl⟩ := (mem_idx 0).1 hx
          rw [lm j (by omega)]
          have := he j
          have := ho j
          omega⟩
        obtain ⟨Q, F2, q1, ql, qn, qc, qs, qa⟩ := run_left hG (by omega) hmL
        have hQR : ∀ j, j < G.n → Q.getD j 0 ≤ R.getD j 0 := ra Q qs (fun j hj => by
          have a1 := qc j
          rw [clip_getD, if_pos hj, lm j hj] at a1
          omega)
        have f34 := F34_is hn hGs rl ql hQR
        have g1 : ((R.length : Int) != n) = false := by rw [rl, hn]; simp
        have g2 : ((Q.length : Int) != n) = false := by rw [ql, hn]; simp
        have n0 : (0 : Int) ≤ n := by omega
        have n1 : n.toNat * 8 ≤ 140737488355328 := by omega
        simp only [first7.is.1, first7.is.2, hmp, hy, hn0, ft.1, ft.2, fo.1, fo.2, r1.1, r1.2, s1.1, s1.2, q1.1, q1.2, (sameIs _ _).1, (sameIs _ _).2, (num7.is _).1, (num7.is _).2, f13, f25, f34, g1, g2, n0, n1, decide_true, if_true, if_false, Bool.not_true, Bool.not_false, Bool.false_eq_true, Bool.true_eq_false, bne_self_eq_false]
      · have hmay' := (Bool.not_eq_true _).mp hmay2
        rw [hmay'] at fo
        simp [first7.is.1, first7.is.2, hmp, hy, ft.1, ft.2, fo.1, fo.2]
    · have hmay' := (Bool.not_eq_true _).mp hmay
      rw [hmay'] at ft
      simp [first7.is.1, first7.is.2, hmp, hy, ft.1, ft.2, fo.1]
  · simp [first7.is.1, first7.is.2, hmp, Made7.no hm, ft.1, fo.1]
end HindexLeft
end Go.Proofs.Ythbojpaghbbnnaa.Z
