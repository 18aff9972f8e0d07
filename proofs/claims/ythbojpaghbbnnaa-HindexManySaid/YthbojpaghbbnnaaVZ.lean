/- Plain law: HindexMany answers true. No condition. -/
import Derived.Test.YthbojpaghbbnnaaVE
namespace Go.Proofs.Ythbojpaghbbnnaa.Z
open Go Go.RowKit Hx
set_option linter.unusedVariables false
set_option linter.unusedSimpArgs false
theorem sum_append1 (l : List Int) (x : Int) : sum (l ++ [x]) = sum l + x := by
  induction l with
  | nil => simp [sum]
  | cons a l ih => simp only [List.cons_append, sum, List.foldr_cons] at *; omega
theorem sum_take {l : List Int} {k : Nat} (h : k < l.length) : sum (l.take (k + 1)) = sum (l.take k) + l.getD k 0 := by
  rw [take_snoc 0 l k h, sum_append1]
theorem sum_take_rng {l : List Int} {c : Int} (h : ∀ j, 0 ≤ l.getD j 0 ∧ l.getD j 0 ≤ c) (k : Nat) (hk : k ≤ l.length) : 0 ≤ sum (l.take k) ∧ sum (l.take k) ≤ k * c := by
  induction k with
  | zero => simp [sum]
  | succ k ih =>
    rw [sum_take (by omega)]
    have a := ih (by omega)
    have b := h k
    have e : ((k + 1 : Nat) : Int) * c = k * c + c := by rw [Int.natCast_succ, Int.add_mul, Int.one_mul]
    omega
def degL (G : Gr) : List Int := (List.range G.n).map (fun v => ((nbG G v).length : Int))
theorem degL_getD {G : Gr} {k : Nat} (h : k < G.n) : (degL G).getD k 0 = ((nbG G k).length : Int) := by
  simp [degL, List.getD, h]
theorem degL_len (G : Gr) : (degL G).length = G.n := by simp [degL]
namespace HindexMany
theorem F12_is {n : Int} {G : Gr} (hG : G.Ok) (hn : (G.n : Int) = n) (hs : G.n ≤ 400) {est R F : List Int} (hel : est.length = G.n) (hRl : R.length = G.n) (hR : ∀ j, 0 ≤ R.getD j 0 ∧ R.getD j 0 ≤ 400) (he : ∀ j, 0 ≤ est.getD j 0) :
    F12 n est (listsOf G) 0 0 0 R F = some ((n, sum (clip (nbG G) G.n est) - sum R, sum (degL G), ()), (F, ())) := by
  have hln := (lok_listsOf hG (by omega)).len
  have hcl := clip_len (nbG G) G.n est
  have hc : ∀ j, 0 ≤ (clip (nbG G) G.n est).getD j 0 ∧ (clip (nbG G) G.n est).getD j 0 ≤ 400 := fun j => by
    refine ⟨clip_nonneg he j, ?_⟩
    rw [clip_getD]
    have := nbG_len (G := G) j
    split <;> omega
  have hd : ∀ j, 0 ≤ (degL G).getD j 0 ∧ (degL G).getD j 0 ≤ 400 := fun j => by
    rcases Nat.lt_or_ge j G.n with q | q
    · rw [degL_getD q]
      have := nbG_len (G := G) j
      omega
    · have : (degL G).getD j 0 = 0 := by rw [List.getD_eq_getElem?_getD, List.getElem?_eq_none (by rw [degL_len]; exact q)]; rfl
      omega
  have hdl := degL_len G
  have key := F12_inv (n0 := n) (est2 := est) (lists9 := listsOf G) (r0 := R) (r1 := F) (fun s e v => 0 ≤ v ∧ v ≤ n ∧ s = sum ((clip (nbG G) G.n est).take v.toNat) - sum (R.take v.toNat) ∧ e = sum ((degL G).take v.toNat)) (fun _ _ v => n.toNat - v.toNat)
    (fun z => z = ((n, sum (clip (nbG G) G.n est) - sum R, sum (degL G), ()), (F, ()))) (fun s e v hi => by
      obtain ⟨h0, h1, rfl, rfl⟩ := hi
      obtain ⟨k, rfl⟩ := Int.eq_ofNat_of_zero_le h0
      unfold R12
      have ek : List.getD (listsOf G) (Int.toNat (k : Int)) [] = nbG G k := congrFun (nbl_listsOf hG) k
      simp only [ek]
      simp only [Int.toNat_natCast]
      refine led_dif (fun q1 => ?_) (fun q1 => led_x ?_)
      · have hw : IntKind.wrap .i64 ((k : Int) + 1) = (k : Int) + 1 := wr (by omega) (by omega)
        have b1 := sum_take_rng hc k (by omega)
        have b2 := sum_take_rng hR k (by omega)
        have b3 := sum_take_rng hd k (by omega)
        have c1 := hc k
        have c2 := hR k
        have c3 := hd k
        have t1 := sum_take (l := clip (nbG G) G.n est) (k := k) (by omega)
        have t2 := sum_take (l := R) (k := k) (by omega)
        have t3 := sum_take (l := degL G) (k := k) (by omega)
        rw [degL_getD (by omega)] at t3 c3
        have cg := clip_getD (nbG G) G.n est k
        rw [if_pos (by omega)] at cg
        rw [hw]
        have w3 : IntKind.wrap .i64 (sum ((degL G).take k) + ((nbG G k).length : Int)) = sum ((degL G).take k) + ((nbG G k).length : Int) := wr (by omega) (by omega)
        rw [w3]
        have hi1 : ((k : Int) + 1).toNat = k + 1 := by omega
        refine led_need h0 (led_need (by omega) (led_need h0 (led_need (by omega) (led_dif (fun q2 => ?_) (fun q2 => ?_)))))
        · rw [show IntKind.wrap .i64 (sum ((clip (nbG G) G.n est).take k) - sum (R.take k) + ((nbG G k).length : Int)) = sum ((clip (nbG G) G.n est).take k) - sum (R.take k) + ((nbG G k).length : Int) from wr (by omega) (by omega), show IntKind.wrap .i64 (sum ((clip (nbG G) G.n est).take k) - sum (R.take k) + ((nbG G k).length : Int) - R.getD k 0) = sum ((clip (nbG G) G.n est).take k) - sum (R.take k) + ((nbG G k).length : Int) - R.getD k 0 from wr (by omega) (by omega)]
          exact led_need h0 (led_need (by omega) (led_need h0 (led_need (by omega) (led_need h0 (led_need (by omega) (led_k ⟨_, _, _, rfl, ⟨by omega, by omega, by rw [hi1]; omega, by rw [hi1]; omega⟩, by omega⟩))))))
        · rw [show IntKind.wrap .i64 (sum ((clip (nbG G) G.n est).take k) - sum (R.take k) + est.getD k 0) = sum ((clip (nbG G) G.n est).take k) - sum (R.take k) + est.getD k 0 from wr (by omega) (by omega), show IntKind.wrap .i64 (sum ((clip (nbG G) G.n est).take k) - sum (R.take k) + est.getD k 0 - R.getD k 0) = sum ((clip (nbG G) G.n est).take k) - sum (R.take k) + est.getD k 0 - R.getD k 0 from wr (by omega) (by omega)]
          exact led_need h0 (led_need (by omega) (led_need h0 (led_need (by omega) (led_k ⟨_, _, _, rfl, ⟨by omega, by omega, by rw [hi1]; omega, by rw [hi1]; omega⟩, by omega⟩))))
      · rw [take_all (by omega), take_all (by omega), take_all (by omega)]) 0 0 0 ⟨by omega, by omega, by simp [sum], by simp [sum]⟩
  obtain ⟨z, hz, hq⟩ := key
  rw [hz, hq]
theorem F21_is {n s e : Int} {F : List Int} (hn : n ≤ 400) (hl : F.length ≤ 2199023255552) (hf : ∀ i, i < F.length → 0 ≤ F.getD i 0 ∧ F.getD i 0 ≤ n ∧ (F.getD i 0 = 0 → i + 1 = F.length)) :
    F21 n s e 0 0 F = some (Sum.inr ((s, e, sum F, ()), (F, ()))) := by
  have hc : ∀ j, 0 ≤ F.getD j 0 ∧ F.getD j 0 ≤ 400 := fun j => by
    rcases Nat.lt_or_ge j F.length with q | q
    · have := hf j q; omega
    · have : F.getD j 0 = 0 := by rw [List.getD_eq_getElem?_getD, List.getElem?_eq_none q]; rfl
      omega
  have key := F21_inv (n0 := n) (sum14 := s) (edges15 := e) (r0 := F) (fun a i => 0 ≤ i ∧ i ≤ F.length ∧ a = sum (F.take i.toNat)) (fun _ i => F.length - i.toNat)
    (fun z => z = Sum.inr ((s, e, sum F, ()), (F, ()))) (fun a i hi => by
      obtain ⟨h0, h1, rfl⟩ := hi
      obtain ⟨k, rfl⟩ := Int.eq_ofNat_of_zero_le h0
      unfold R21
      simp only [Int.toNat_natCast]
      refine led_dif (fun q1 => ?_) (fun q1 => led_x (by rw [take_all (by omega)]))
      have q := hf k (by omega)
      have b := sum_take_rng hc k (by omega)
      have t1 := sum_take (l := F) (k := k) (by omega)
      have hw : IntKind.wrap .i64 ((k : Int) + 1) = (k : Int) + 1 := wr (by omega) (by omega)
      have hw2 : IntKind.wrap .i64 (sum (F.take k) + F.getD k 0) = sum (F.take k) + F.getD k 0 := wr (by omega) (by omega)
      have hw3 : IntKind.wrap .i64 ((F.length : Int) - 1) = (F.length : Int) - 1 := wr (by omega) (by omega)
      have hi1 : ((k : Int) + 1).toNat = k + 1 := by omega
      have d1 : decide (F.getD k 0 < 0) = false := decide_eq_false (by omega)
      have d2 : decide (F.getD k 0 > n) = false := decide_eq_false (by omega)
      have go : ∃ (a' : Int) (i' : Int), ((n, s, e, sum (F.take k) + F.getD k 0, (k : Int) + 1, ()), (F, ())) = ((n, s, e, a', i', ()), (F, ())) ∧ (0 ≤ i' ∧ i' ≤ F.length ∧ a' = sum (F.take i'.toNat)) ∧ F.length - i'.toNat < F.length - k := ⟨_, _, rfl, ⟨by omega, by omega, by rw [hi1]; omega⟩, by omega⟩
      simp only [hw, hw2, hw3, d1, d2, h0, q1, if_true]
      by_cases z : F.getD k 0 = 0
      · have d3 : decide ((k : Int) < (F.length : Int) - 1) = false := decide_eq_false (by have := q.2.2 z; omega)
        have d4 : (F.getD k 0 == 0) = true := by simpa using z
        simp only [d3, d4, if_true, if_false, Bool.false_eq_true]
        exact led_k go
      · have d4 : (F.getD k 0 == 0) = false := by simpa using z
        simp only [d4, if_true, if_false, Bool.false_eq_true]
        exact led_k go) 0 0 ⟨by omega, by omega, by simp [sum]⟩
  obtain ⟨z, hz, hq⟩ := key
  rw [hz, hq]
theorem sum_zero : ∀ {l : List Int}, (∀ x ∈ l, 0 ≤ x) → (sum l = 0 ↔ ∀ x ∈ l, x = 0)
  | [], _ => by simp [sum]
  | a :: l, h => by
    have ha := h a (by simp)
    have hl : ∀ x ∈ l, 0 ≤ x := fun x hx => h x (by simp [hx])
    have hs := sum_nonneg hl
    have ih := sum_zero hl
    have e : sum (a :: l) = a + sum l := rfl
    constructor
    · intro q x hx
      rcases List.mem_cons.1 hx with k | k
      · rw [k]; omega
      · exact ih.1 (by omega) x k
    · intro q
      have := q a (by simp)
      have := ih.2 (fun x hx => q x (by simp [hx]))
      omega
theorem edges_none {G : Gr} : sum (degL G) = 0 ↔ anyTo (nbG G) G.n = false := by
  rw [sum_zero (fun x hx => by
    simp only [degL, List.mem_map] at hx
    obtain ⟨v, _, rfl⟩ := hx
    omega)]
  simp only [degL, anyTo, List.mem_map, List.any_eq_false, List.mem_range, decide_eq_true_eq]
  constructor
  · intro h v hv
    have := h _ ⟨v, hv, rfl⟩
    omega
  · rintro h x ⟨v, hv, rfl⟩
    have := h v hv
    omega
theorem holds (n : Int) (l : List (Int × Int)) (est : List Int) (w0 : (Lit.int .i64 n).wf = true) (w1 : l.length ≤ maxLen ∧ ∀ x ∈ l, (Lit.int .i64 x.1).wf = true ∧ (Lit.int .i64 x.2).wf = true) (w2 : est.length ≤ maxLen ∧ ∀ x ∈ est, (Lit.int .i64 x).wf = true) : pre n l est = true ∧ fn n l est = (true, ()) := by
  refine is_fn _ _ _ ?_
  unfold run'
  have hmp : Made7.pre n l = true := rfl
  have ft := fits.is (l := est) (n := n) (by have := w2.1; unfold maxLen at this; omega)
  by_cases hm : madeOk n l = true
  · have hG := madeG_ok hm
    obtain ⟨⟨h0, h1⟩, h2⟩ := madeOk_iff.1 hm
    have hGs : (madeG n l).n ≤ 400 := by rw [madeG_n]; omega
    have hn : ((madeG n l).n : Int) = n := by rw [madeG_n]; omega
    have hn0 : Option.isNone (some (madeG n l)) = false := rfl
    have hy := Made7.yes hm
    rw [fits_may hm est] at ft
    by_cases hmay : mayB (madeG n l) est = true
    · rw [hmay] at ft
      generalize madeG n l = G at *
      obtain ⟨hel, he0⟩ := mayB_iff.1 hmay
      have he := getD_nonneg he0
      obtain ⟨R0, F0, hR⟩ := runs_ex (nbs := nbG G) (clip_len (nbG G) G.n est) (clip_nonneg he)
      have a := RunH.is hG (by omega) hmay hR
      have L := hR.left (nbG_ok hG) (clip_len _ _ _) (clip_nonneg he)
      have hc : ∀ j, (clip (nbG G) G.n est).getD j 0 ≤ 400 := fun j => by
        rw [clip_getD]
        have := nbG_len (G := G) j
        split <;> omega
      have hsum := clip_sum (nbs := nbG G) (est := est) (fun v => Nat.le_trans (nbG_len v) (by omega)) (show G.n ≤ 1048576 by omega)
      have hR0 := sum_getD_nonneg L.nonneg
      by_cases ha : anyTo (nbG G) G.n = true
      · rw [if_pos ha] at a
        have f1 := F12_is hG hn hGs (F := F0) hel L.len (fun j => ⟨L.nonneg j, Int.le_trans (L.le j) (hc j)⟩) he
        have m := L.many
        have f2 := F21_is (n := n) (s := sum (clip (nbG G) G.n est) - sum R0) (e := sum (degL G)) (F := F0) (by omega) (by omega) (fun i hi => by
          have := L.falls i hi
          exact ⟨this.1, by omega, this.2.2⟩)
        have e0 : (sum (degL G) == 0) = false := by
          have : ¬ sum (degL G) = 0 := fun q => by rw [edges_none.1 q] at ha; cases ha
          simpa using this
        have hne := List.length_pos_iff.2 L.some
        have g1 : decide ((F0.length : Int) ≥ 1) = true := decide_eq_true (by omega)
        have hw : IntKind.wrap .i64 (sum (clip (nbG G) G.n est) - sum R0 + 1) = sum (clip (nbG G) G.n est) - sum R0 + 1 := wr (by omega) (by omega)
        have g2 : decide ((F0.length : Int) ≤ sum (clip (nbG G) G.n est) - sum R0 + 1) = true := decide_eq_true m
        have g3 : decide (sum F0 ≤ sum (clip (nbG G) G.n est) - sum R0) = true := decide_eq_true L.all
        have g4 : ((R0.length : Int) != n) = false := by rw [L.len, hn]; simp
        simp only [first7.is.1, first7.is.2, hmp, hy, hn0, ft.1, ft.2, a.1, a.2, (num7.is _).1, (num7.is _).2, f1, f2, e0, g1, hw, g2, g3, g4, if_true, if_false, Bool.not_true, Bool.not_false, Bool.false_eq_true, Bool.true_eq_false, bne_self_eq_false]
      · rw [if_neg ha] at a
        have f1 := F12_is hG hn hGs (R := clip (nbG G) G.n est) (F := []) hel (clip_len _ _ _) (fun j => ⟨clip_nonneg he j, hc j⟩) he
        have f2 := F21_is (n := n) (s := sum (clip (nbG G) G.n est) - sum (clip (nbG G) G.n est)) (e := sum (degL G)) (F := []) (by omega) (by simp) (by simp)
        have e0 : (sum (degL G) == 0) = true := by
          rw [edges_none.2 ((Bool.not_eq_true _).mp ha)]; rfl
        have g4 : (((clip (nbG G) G.n est).length : Int) != n) = false := by rw [clip_len, hn]; simp
        simp only [first7.is.1, first7.is.2, hmp, hy, hn0, ft.1, ft.2, a.1, a.2, (num7.is _).1, (num7.is _).2, f1, f2, e0, g4, if_true, if_false, Bool.not_true, Bool.not_false, Bool.false_eq_true, Bool.true_eq_false, bne_self_eq_false]
        rfl
    · have hmay' := (Bool.not_eq_true _).mp hmay
      rw [hmay'] at ft
      simp [first7.is.1, first7.is.2, hmp, hy, ft.1, ft.2]
  · simp [first7.is.1, first7.is.2, hmp, Made7.no hm, ft.1]
end HindexMany
end Go.Proofs.Ythbojpaghbbnnaa.Z
