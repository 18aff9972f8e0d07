/- Plain laws: Sweep, Run and Cores of package hindex; first of chapter 7. No condition. -/
import Derived.Test.YthbojpaghbbnnaaVA
import Derived.Test.YthbojpaghbbnnaaWH
import Derived.Test.YthbojpaghbbnnaaHC
namespace Go.Proofs.Ythbojpaghbbnnaa.Z
open Go Go.RowKit Hx
set_option linter.unusedVariables false
set_option linter.unusedSimpArgs false
abbrev nbG (G : Gr) : Nat → List Int := fun v => up (G.nb v)
theorem nbG_ok {G : Gr} (hG : G.Ok) : Nbs G.n (nbG G) where
  rng v hv u hu := by
    simp only [nbG, up, List.mem_map] at hu
    obtain ⟨w, hw, rfl⟩ := hu
    have := hG.rng' ((Gr.mem_nb hG).1 hw)
    omega
  irr v hv h := by
    simp only [nbG, up, List.mem_map] at h
    obtain ⟨w, hw, e⟩ := h
    obtain rfl : w = v := Int.ofNat_inj.1 e
    exact adj_ne hG ((Gr.mem_nb hG).1 hw) rfl
  symm u v hu hv h := by
    simp only [nbG, up, List.mem_map] at h ⊢
    obtain ⟨w, hw, e⟩ := h
    obtain rfl : w = u := Int.ofNat_inj.1 e
    exact ⟨v, (Gr.mem_nb hG).2 (by rw [hG.symm]; exact (Gr.mem_nb hG).1 hw), rfl⟩
  nodup v hv := nodup_map (fun a b e => Int.ofNat_inj.1 e) (G.nb_nodup v)
theorem nbG_len {G : Gr} (v : Nat) : (nbG G v).length ≤ G.n := by
  rw [nbG, up_length]; exact G.nb_length_le v
theorem nbFnG {G : Gr} (u : Nat) : Neighbours.fn (some G) (u : Int) = (nbG G u, ()) := by
  simp only [Neighbours.fn, gr_some, Gr.nbz, Int.natCast_nonneg, if_true, Int.toNat_natCast]
theorem HH.is {l : List Int} {m : Int} (h : l.length ≤ 1099511627776) (hm : wf m = true) : HH.pre l m = true ∧ HH.fn l m = (hOf l m, ()) := by
  refine ⟨?_, rfl⟩
  show (decide (l.length ≤ 1099511627776) && wf m) = true
  rw [decide_eq_true h, hm]
  rfl
def mayB (G : Gr) (est : List Int) : Bool := decide (est.length = G.n) && decide (∀ x ∈ est, 0 ≤ x)
theorem may.is {G : Gr} (hn : G.n ≤ 1048576) {est : List Int} : may.pre (some G) est = true ∧ may.fn (some G) est = (mayB G est, ()) := by
  refine may.is_fn _ _ ?_
  unfold may.run' mayB
  by_cases hl : est.length = G.n
  · have key := may.F4_inv (t12 := est) (t13 := (est.length : Int)) (fun i => 0 ≤ i ∧ i ≤ est.length ∧ ∀ j : Nat, (j : Int) < i → 0 ≤ est.getD j 0) (fun i => est.length - i.toNat) (fun z => z = if (∀ x ∈ est, 0 ≤ x) then Sum.inr ((), ()) else Sum.inl ((false, ()), ())) (fun i hi => by
      obtain ⟨h0, h1, h2⟩ := hi
      unfold may.R4
      have hw : i < est.length → IntKind.wrap .i64 (i + 1) = i + 1 := fun _ => wr (by omega) (by omega)
      refine led_dif (fun q1 => ?_) (fun q1 => led_x ?_)
      · rw [hw q1]
        refine led_need h0 (led_need q1 (led_dif (fun q2 => led_x ?_) (fun q2 => led_k ⟨_, rfl, ⟨by omega, by omega, fun j hj => ?_⟩, by omega⟩)))
        · rw [if_neg]
          intro h
          have := h _ (mem_getD 0 est i.toNat (by omega))
          omega
        · by_cases e : (j : Int) < i
          · exact h2 j e
          · have : j = i.toNat := by omega
            subst this; omega
      · rw [if_pos]
        intro x hx
        obtain ⟨j, hj, e⟩ := (mem_idx 0).1 hx
        have := h2 j (by omega)
        omega) 0 ⟨by omega, by omega, fun j hj => by omega⟩
    obtain ⟨z, hz, hq⟩ := key
    have hne : (((est.length : Nat) : Int) != (G.n : Int)) = false := by simp [hl]
    simp only [N.pre, N.fn, gr_some, Option.isSome_some, if_true, hne, Bool.false_eq_true, if_false, hz, hq, decide_eq_true hl, Bool.true_and]
    by_cases h : ∀ x ∈ est, 0 ≤ x
    · simp only [if_pos h, decide_eq_true h]
    · simp only [if_neg h, decide_eq_false h]
  · have hne : (((est.length : Nat) : Int) != (G.n : Int)) = true := by simp; omega
    simp only [N.pre, N.fn, gr_some, Option.isSome_some, if_true, hne, decide_eq_false hl, Bool.false_and]
namespace sweepH
theorem F8_is {g : Option Gr} {falls v old t18 t19 : Int} {past : Bool} {L r0 : List Int} (hr : ∀ u ∈ L, 0 ≤ u ∧ u < r0.length) (hl : L.length ≤ 1048576) :
    F8 g falls past v old L t18 t19 L (L.length : Int) 0 r0 [] = some ((g, falls, past, v, old, L, t18, t19, ()), (r0, vals L r0, ())) := by
  have key := F8_inv (g0 := g) (falls6 := falls) (past7 := past) (v8 := v) (old9 := old) (to10 := L) (t18 := t18) (t19 := t19) (t27 := L) (t28 := (L.length : Int)) (r0 := r0) (fun i r1 => 0 ≤ i ∧ i ≤ L.length ∧ r1 = vals (L.take i.toNat) r0) (fun i _ => L.length - i.toNat)
    (fun z => z = ((g, falls, past, v, old, L, t18, t19, ()), (r0, vals L r0, ()))) (fun i r1 hi => by
      obtain ⟨h0, h1, rfl⟩ := hi
      unfold R8
      refine led_dif (fun hlt => ?_) (fun hge => led_x (by rw [take_all (by omega)]))
      have hx := hr _ (mem_getD 0 L i.toNat (by omega))
      have hw : IntKind.wrap .i64 (i + 1) = i + 1 := wr (by omega) (by omega)
      have hi1 : (i + 1).toNat = i.toNat + 1 := by omega
      have hvl : ∀ M : List Int, (vals M r0).length = M.length := fun M => by simp [vals]
      rw [hw]
      refine led_need h0 (led_need hlt (led_need hx.1 (led_need hx.2 (led_need ?_ (led_k ⟨_, _, rfl, ⟨by omega, by omega, ?_⟩, by omega⟩)))))
      · rw [hvl, List.length_take, List.length_singleton]; omega
      · rw [hi1, take_snoc 0 L i.toNat (by omega)]
        simp [vals]) 0 [] ⟨by omega, by omega, rfl⟩
  obtain ⟨z, hz, hq⟩ := key
  rw [hz, hq]
theorem aheadOf_drop' {L r : List Int} {v : Nat} {h old : Int} {i : Nat} (hi : i < L.length) : aheadOf (L.drop i) v r h old = ((decide (L.getD i 0 < (v : Int)) && (decide (r.getD (L.getD i 0).toNat 0 > h) && decide (r.getD (L.getD i 0).toNat 0 ≤ old))) || aheadOf (L.drop (i + 1)) v r h old) := by
  rw [drop_getD 0 L i hi]
  rfl
theorem F17_is {g : Option Gr} {falls v h old t18 t19 : Int} {past : Bool} {L r0 : List Int} (hv : 0 ≤ v) (hr : ∀ u ∈ L, 0 ≤ u ∧ u < r0.length) (hl : L.length ≤ 1048576) :
    F17 g falls past v old h t18 t19 L (L.length : Int) 0 r0 = some ((g, falls, past || aheadOf L v.toNat r0 h old, t18, t19, ()), (r0, ())) := by
  have key := F17_inv (g0 := g) (falls6 := falls) (v8 := v) (old9 := old) (h14 := h) (t18 := t18) (t19 := t19) (t53 := L) (t54 := (L.length : Int)) (r0 := r0) (fun p i => 0 ≤ i ∧ i ≤ L.length ∧ (p || aheadOf (L.drop i.toNat) v.toNat r0 h old) = (past || aheadOf L v.toNat r0 h old)) (fun _ i => L.length - i.toNat)
    (fun z => z = ((g, falls, past || aheadOf L v.toNat r0 h old, t18, t19, ()), (r0, ()))) (fun p i hi => by
      obtain ⟨h0, h1, h2⟩ := hi
      unfold R17
      refine led_dif (fun hlt => ?_) (fun hge => ?_)
      · have hx := hr _ (mem_getD 0 L i.toNat (by omega))
        have hw : IntKind.wrap .i64 (i + 1) = i + 1 := wr (by omega) (by omega)
        have hi1 : (i + 1).toNat = i.toNat + 1 := by omega
        have hvn : ((v.toNat : Nat) : Int) = v := by omega
        rw [aheadOf_drop' (by omega), hvn] at h2
        rw [hw]
        have go : ∀ p', (p' || aheadOf (L.drop (i.toNat + 1)) v.toNat r0 h old) = (past || aheadOf L v.toNat r0 h old) → (0 ≤ i + 1 ∧ i + 1 ≤ L.length ∧ (p' || aheadOf (L.drop (i + 1).toNat) v.toNat r0 h old) = (past || aheadOf L v.toNat r0 h old)) := fun p' e => ⟨by omega, by omega, by rw [hi1]; exact e⟩
        refine led_need h0 (led_need hlt (led_if (fun cp => ?_) (fun cp => ?_)))
        · subst cp
          refine led_dif (fun c1 => ?_) (fun c1 => ?_)
          · refine led_need hx.1 (led_need hx.2 (led_dif (fun c2 => ?_) (fun c2 => ?_)))
            · refine led_need hx.1 (led_need hx.2 ?_)
              refine led_k ⟨_, _, rfl, go _ ?_, by omega⟩
              rw [← h2, decide_eq_true c1, decide_eq_true c2]
              simp
            · refine led_k ⟨_, _, rfl, go _ ?_, by omega⟩
              rw [← h2, decide_eq_false c2]
              simp
          · refine led_k ⟨_, _, rfl, go _ ?_, by omega⟩
            rw [← h2, decide_eq_false c1]
            simp
        · have cp' : p = true := by cases p; exact absurd rfl cp; rfl
          subst cp'
          refine led_k ⟨_, _, rfl, go _ ?_, by omega⟩
          rw [← h2]
          simp
      · refine led_x ?_
        rw [List.drop_eq_nil_of_le (by omega)] at h2
        rw [← h2]
        simp [aheadOf]) past 0 ⟨by omega, by omega, rfl⟩
  obtain ⟨z, hz, hq⟩ := key
  rw [hz, hq]
theorem is {G : Gr} (hG : G.Ok) (hn : G.n ≤ 1048576) {est : List Int} (hl : est.length = G.n) (h0e : ∀ j, 0 ≤ est.getD j 0) (hw0 : ∀ x ∈ est, wf x = true) :
    pre (some G) est = true ∧ fn (some G) est = ((sweepTo (nbG G) est G.n).1, (sweepTo (nbG G) est G.n).2.1, (sweepTo (nbG G) est G.n).2.2, ()) := by
  have hN := nbG_ok hG
  have hwfj : ∀ j, wf (est.getD j 0) = true := fun j => by
    rcases Nat.lt_or_ge j est.length with q | q
    · exact hw0 _ (mem_getD 0 est j q)
    · rw [List.getD_eq_getElem?_getD, List.getElem?_eq_none q]; rfl
  have key := F3_inv (g0 := some G) (t18 := (est.length : Int)) (fun falls past v r => 0 ≤ v ∧ v ≤ G.n ∧ sweepTo (nbG G) est v.toNat = (r, falls, past)) (fun _ _ v _ => G.n - v.toNat)
    (fun z => z = (((sweepTo (nbG G) est G.n).2.1, (sweepTo (nbG G) est G.n).2.2, ()), ((sweepTo (nbG G) est G.n).1, ()))) (fun falls past v r hi => by
      obtain ⟨h0, h1, h2⟩ := hi
      have hrl := sweepTo_len (nbG G) est v.toNat
      have hf := sweepTo_falls (nbG G) est v.toNat (by omega)
      have hs := sweepTo_succ (nbG G) est v.toNat
      have hle := sweepTo_le (nbG G) est v.toNat (by omega) v.toNat
      have hnn := sweepTo_nonneg (nbs := nbG G) h0e v.toNat (by omega) v.toNat
      rw [h2] at hrl hf hs hle hnn
      simp only at hrl hf hle hnn
      unfold R3
      refine led_dif (fun hlt => ?_) (fun hge => ?_)
      · obtain ⟨x, rfl⟩ := Int.eq_ofNat_of_zero_le h0
        rw [Int.toNat_natCast] at hs hle hnn h2
        have hx : x < G.n := by omega
        have hr : ∀ u ∈ nbG G x, 0 ≤ u ∧ u < (r.length : Int) := fun u hu => by
          have := hN.rng x hx u hu
          omega
        have hrow := nbG_len (G := G) x
        have hw : IntKind.wrap .i64 ((x : Int) + 1) = (x : Int) + 1 := wr (by omega) (by omega)
        have hwf : IntKind.wrap .i64 (falls + 1) = falls + 1 := wr (by omega) (by omega)
        have hi1 : ((x : Int) + 1).toNat = x + 1 := by omega
        have hwold : wf (r.getD x 0) = true := by
          have h3 := wf_iff.1 (hwfj x)
          exact wf_iff.2 ⟨by omega, by have := h3.2; omega⟩
        have hH := HH.is (l := vals (nbG G x) r) (m := r.getD x 0) (by simp only [vals, List.length_map]; omega) hwold
        have hole := hOf_le (l := vals (nbG G x) r) hnn
        rw [Int.toNat_natCast]
        refine led_need h0 (led_need (by omega) (led_need (by rfl) ?_))
        rw [nbFnG]
        simp only [F8_is hr (show (nbG G x).length ≤ 1048576 by omega)]
        rw [hw]
        refine led_need hH.1 ?_
        simp only [hH.2]
        have hsw : swStep (nbG G) (r, falls, past) x = if hOf (vals (nbG G x) r) (r.getD x 0) ≥ r.getD x 0 then (r, falls, past)
          else (r.set x (hOf (vals (nbG G x) r) (r.getD x 0)), falls + 1, past || aheadOf (nbG G x) x (r.set x (hOf (vals (nbG G x) r) (r.getD x 0))) (hOf (vals (nbG G x) r) (r.getD x 0)) (r.getD x 0)) := rfl
        refine led_if (fun c => ?_) (fun c => ?_)
        · have c' : hOf (vals (nbG G x) r) (r.getD x 0) = r.getD x 0 := by simpa using c
          rw [if_pos (by omega)] at hsw
          exact led_k ⟨_, _, _, _, rfl, ⟨by omega, by omega, by rw [hi1, hs, hsw]⟩, by omega⟩
        · have c' : hOf (vals (nbG G x) r) (r.getD x 0) ≠ r.getD x 0 := by simpa using c
          rw [if_neg (by omega)] at hsw
          refine led_need h0 (led_need (by omega) (led_need (by omega) ?_))
          rw [hwf]
          simp only [F17_is (r0 := r.set x (hOf (vals (nbG G x) r) (r.getD x 0))) h0 (by rw [List.length_set]; exact hr) (show (nbG G x).length ≤ 1048576 by omega), Int.toNat_natCast]
          rw [hw]
          exact led_k ⟨_, _, _, _, rfl, ⟨by omega, by omega, by rw [hi1, hs, hsw]⟩, by omega⟩
      · refine led_x ?_
        obtain rfl : v = G.n := by omega
        rw [Int.toNat_natCast] at h2
        rw [h2]) 0 false 0 est ⟨by omega, by omega, rfl⟩
  obtain ⟨z, hz, hq⟩ := key
  refine is_fn _ _ ?_
  unfold run'
  rw [hz, hq]
end sweepH
end Go.Proofs.Ythbojpaghbbnnaa.Z
namespace Go.Proofs.Ythbojpaghbbnnaa.Z
open Go Go.RowKit Hx
set_option linter.unusedVariables false
set_option linter.unusedSimpArgs false
theorem mayB_iff {G : Gr} {est : List Int} : mayB G est = true ↔ est.length = G.n ∧ ∀ x ∈ est, 0 ≤ x := by
  simp [mayB]
theorem getD_nonneg {est : List Int} (h : ∀ x ∈ est, 0 ≤ x) (j : Nat) : 0 ≤ est.getD j 0 := by
  rcases Nat.lt_or_ge j est.length with q | q
  · exact h _ (mem_getD 0 est j q)
  · rw [List.getD_eq_getElem?_getD, List.getElem?_eq_none q]; exact Int.le_refl _
theorem wf_small {l : List Int} (h : ∀ j, 0 ≤ l.getD j 0 ∧ l.getD j 0 ≤ 1048576) : ∀ x ∈ l, wf x = true := fun x hx => by
  obtain ⟨j, _, rfl⟩ := (mem_idx 0).1 hx
  have := h j
  exact wf_iff.2 ⟨by omega, by omega⟩
theorem SweepH.is {G : Gr} (hG : G.Ok) (hn : G.n ≤ 1048576) {est : List Int} (hw : ∀ x ∈ est, wf x = true) (hel : est.length ≤ 1099511627776) :
    SweepH.pre (some G) est = true ∧ SweepH.fn (some G) est = if mayB G est = true then ((sweepTo (nbG G) est G.n).1, (sweepTo (nbG G) est G.n).2.1, (sweepTo (nbG G) est G.n).2.2, 0, ()) else ([], 0, false, 70, ()) := by
  refine SweepH.is_fn _ _ ?_
  unfold SweepH.run'
  obtain ⟨m1, m2⟩ := may.is hn (est := est)
  simp only [m1, m2, if_true]
  by_cases h : mayB G est = true
  · obtain ⟨h1, h2⟩ := mayB_iff.1 h
    obtain ⟨s1, s2⟩ := sweepH.is hG hn h1 (getD_nonneg h2) hw
    rw [if_neg (by simp [h]), if_pos (by omega), if_pos (by simp; omega), List.nil_append, if_pos s1, s2, if_pos h]
  · rw [if_pos (by simpa using h), if_neg h]
theorem edges_any {G : Gr} (hG : G.Ok) : decide ((G.edges : Int) > 0) = anyTo (nbG G) G.n := by
  refine Bool.eq_iff_iff.2 ?_
  simp only [decide_eq_true_eq, anyTo, List.any_eq_true, List.mem_range]
  constructor
  · intro h
    obtain ⟨⟨u, v⟩, hp⟩ := List.exists_mem_of_length_pos (l := G.pairs) (by unfold Gr.edges at h; omega)
    have hadj := ((Gr.mem_pairs hG).1 hp).2
    refine ⟨u, hG.rng u v hadj, ?_⟩
    rw [nbG, up_length]
    exact List.length_pos_of_mem ((Gr.mem_nb hG).2 hadj)
  · rintro ⟨u, hu, h⟩
    rw [nbG, up_length] at h
    obtain ⟨v, hv⟩ := List.exists_mem_of_length_pos h
    have := edges_pos hG ((Gr.mem_nb hG).1 hv)
    omega
namespace RunH
theorem F5_is {G : Gr} (hn : G.n ≤ 1048576) {est : List Int} (hl : est.length = G.n) : F5 (some G) est (est.length : Int) 0 (List.replicate est.length 0) = some ((some G, ()), (clip (nbG G) G.n est, ())) := by
  have key := F5_inv (g0 := some G) (t20 := est) (t21 := (est.length : Int)) (fun v r => 0 ≤ v ∧ v ≤ G.n ∧ r.length = G.n ∧ ∀ j, j < G.n → r.getD j 0 = if j < v.toNat then min (est.getD j 0) ((nbG G j).length : Int) else 0) (fun v _ => G.n - v.toNat)
    (fun z => z = ((some G, ()), (clip (nbG G) G.n est, ()))) (fun v r hi => by
      obtain ⟨h0, h1, h2, h3⟩ := hi
      unfold R5
      refine led_dif (fun hlt => ?_) (fun hge => led_x ?_)
      · obtain ⟨x, rfl⟩ := Int.eq_ofNat_of_zero_le h0
        have hw : IntKind.wrap .i64 ((x : Int) + 1) = (x : Int) + 1 := wr (by omega) (by omega)
        have hi1 : ((x : Int) + 1).toNat = x + 1 := by omega
        have hd : Degree.fn (some G) (x : Int) = (((nbG G x).length : Int), ()) := by simp only [Degree.fn, gr_some, Int.natCast_nonneg, if_true, Int.toNat_natCast, nbG, up_length]
        rw [hw, hd]
        simp only [Int.toNat_natCast]
        refine led_need h0 (led_need hlt (led_need (by rfl) (led_need h0 (led_need (by omega) (led_need (by omega) (led_k ⟨_, _, rfl, ⟨by omega, by omega, by rw [List.length_set, h2], fun j hj => ?_⟩, by omega⟩))))))
        rw [getD_set, hi1]
        by_cases e : x = j
        · subst e
          rw [if_pos ⟨rfl, by omega⟩, if_pos (show x < x + 1 by omega)]
          split <;> omega
        · rw [if_neg (fun q => e q.1), h3 j hj, Int.toNat_natCast]
          by_cases q : j < x
          · rw [if_pos q, if_pos (by omega)]
          · rw [if_neg q, if_neg (by omega)]
      · have : r = clip (nbG G) G.n est := list_ext_getD (by rw [h2, clip_len]) (fun j hj => by
          rw [h3 j (by omega), clip_getD, if_pos (by omega), if_pos (by omega)])
        rw [this]) 0 (List.replicate est.length 0) ⟨by omega, by omega, by simp [hl], fun j hj => by simp [List.getD_eq_getElem?_getD, List.getElem?_replicate, hl, hj]⟩
  obtain ⟨z, hz, hq⟩ := key
  rw [hz, hq]
theorem F11_is {G : Gr} (hG : G.Ok) (hn : G.n ≤ 1048576) {e R FS : List Int} (hle : e.length = G.n) (h0 : ∀ j, 0 ≤ e.getD j 0 ∧ e.getD j 0 ≤ 1048576) (hs : Hx.sum e ≤ 1099511627776) (hR : Runs (nbG G) G.n e R FS) : F11 (some G) true e [] = some ((), (R, FS, ())) := by
  have hN := nbG_ok hG
  have hLf := hR.left hN hle (fun j => (h0 j).1)
  have hmany := hLf.many
  have hsr := sum_getD_nonneg hLf.nonneg
  have key := F11_inv (g0 := some G) (fun again r6 acc => r6.length = G.n ∧ (∀ j, 0 ≤ r6.getD j 0 ∧ r6.getD j 0 ≤ 1048576) ∧ (again = true → ∃ fs, Runs (nbG G) G.n r6 R fs ∧ FS = acc ++ fs) ∧ (again = false → r6 = R ∧ acc = FS)) (fun _ _ acc => FS.length - acc.length)
    (fun z => z = ((), (R, FS, ()))) (fun again r6 acc hi => by
      obtain ⟨h1, h2, h3, h4⟩ := hi
      unfold R11
      refine led_if (fun c => ?_) (fun c => ?_)
      · obtain ⟨fs, g1, g2⟩ := h3 c
        have hS := sweepH.is hG hn h1 (fun j => (h2 j).1) (wf_small h2)
        have hlen := sweepTo_len (nbG G) r6 G.n
        have hnn := fun j => sweepTo_nonneg (fun j => (h2 j).1) (nbs := nbG G) G.n (by omega) j
        have hlej := sweepTo_le (nbG G) r6 G.n (by omega)
        have hfl : acc.length < FS.length := by
          have : fs ≠ [] := (g1.left hN h1 (fun j => (h2 j).1)).some
          rw [g2, List.length_append]
          have := List.length_pos_iff.2 this
          omega
        refine led_need hS.1 (led_need ?_ ?_)
        · rw [List.length_singleton]; omega
        · simp only [hS.2]
          refine led_k ⟨_, _, _, rfl, ⟨by rw [hlen, h1], fun j => ⟨hnn j, Int.le_trans (hlej j) (h2 j).2⟩, fun hb => ?_, fun hb => ?_⟩, by rw [List.length_append, List.length_singleton]; omega⟩
          · cases g1 with
            | stop k => rw [k] at hb; cases hb
            | more k k' => rw [k]; exact ⟨_, k', by rw [g2]; simp⟩
          · cases g1 with
            | stop k => rw [k]; exact ⟨rfl, g2.symm⟩
            | more k _ => rw [k] at hb; cases hb
      · obtain ⟨rfl, rfl⟩ := h4 (by simpa using c)
        exact led_x rfl) true e [] ⟨hle, h0, fun _ => ⟨FS, hR, rfl⟩, fun h => by cases h⟩
  obtain ⟨z, hz, hq⟩ := key
  rw [hz, hq]
theorem F11_no {g : Option Gr} {e : List Int} : F11 g false e [] = some ((), (e, [], ())) := by
  have key := F11_inv (g0 := g) (fun again r6 acc => again = false ∧ r6 = e ∧ acc = []) (fun _ _ _ => 0) (fun z => z = ((), (e, [], ()))) (fun again r6 acc hi => by
    obtain ⟨rfl, rfl, rfl⟩ := hi
    unfold R11
    exact led_no (by simp) (led_x rfl)) false e [] ⟨rfl, rfl, rfl⟩
  obtain ⟨z, hz, hq⟩ := key
  rw [hz, hq]
theorem clip_rng {G : Gr} (hn : G.n ≤ 1048576) {est : List Int} (h : ∀ j, 0 ≤ est.getD j 0) (j : Nat) : 0 ≤ (clip (nbG G) G.n est).getD j 0 ∧ (clip (nbG G) G.n est).getD j 0 ≤ 1048576 := by
  rw [clip_getD]
  have := h j
  have := nbG_len (G := G) j
  split <;> omega
theorem no {G : Gr} (hn : G.n ≤ 1048576) {est : List Int} (h : mayB G est = false) : pre (some G) est = true ∧ fn (some G) est = ([], [], 70, ()) := by
  refine is_fn _ _ ?_
  unfold run'
  obtain ⟨m1, m2⟩ := may.is hn (est := est)
  simp only [m1, m2, h, if_true, Bool.not_false]
theorem is {G : Gr} (hG : G.Ok) (hn : G.n ≤ 1048576) {est R FS : List Int} (h : mayB G est = true) (hR : Runs (nbG G) G.n (clip (nbG G) G.n est) R FS) :
    pre (some G) est = true ∧ fn (some G) est = if anyTo (nbG G) G.n = true then (R, FS, 0, ()) else (clip (nbG G) G.n est, [], 0, ()) := by
  obtain ⟨h1, h2⟩ := mayB_iff.1 h
  have hN := nbG_ok hG
  have hsum := clip_sum (nbs := nbG G) (est := est) (fun v => Nat.le_trans (nbG_len v) hn) hn
  have hLf := hR.left hN (clip_len _ _ _) (clip_nonneg (getD_nonneg h2))
  have hmany := hLf.many
  have hsr := sum_getD_nonneg hLf.nonneg
  refine is_fn _ _ ?_
  unfold run'
  obtain ⟨m1, m2⟩ := may.is hn (est := est)
  simp only [m1, m2, h, if_true, Bool.not_true, Bool.false_eq_true, if_false, Int.toNat_natCast]
  rw [if_pos (by omega), F5_is hn h1]
  have he : decide ((Edges.fn (some G)).1 > 0) = anyTo (nbG G) G.n := edges_any hG
  simp only [Edges.pre, Option.isSome_some, if_true, he]
  cases ha : anyTo (nbG G) G.n with
  | true =>
    simp only [F11_is hG hn (clip_len _ _ _) (clip_rng hn (getD_nonneg h2)) hsum hR, if_true]
    rw [if_pos (by omega), if_pos (by simp; omega), List.nil_append]
  | false =>
    simp only [F11_no]
    simp
end RunH
def degs (G : Gr) : List Int := (List.range G.n).map (fun v => ((nbG G v).length : Int))
theorem degs_len (G : Gr) : (degs G).length = G.n := by simp [degs]
theorem degs_getD (G : Gr) (j : Nat) : (degs G).getD j 0 = if j < G.n then ((nbG G j).length : Int) else 0 := by
  simp only [degs, List.getD_eq_getElem?_getD, List.getElem?_map]
  by_cases h : j < G.n
  · simp [h]
  · simp [h]
theorem degs_clip (G : Gr) : clip (nbG G) G.n (degs G) = degs G := list_ext_getD (by rw [clip_len, degs_len]) (fun j hj => by
  rw [clip_len] at hj
  rw [clip_getD, if_pos hj, degs_getD, if_pos hj]
  omega)
theorem degs_may (G : Gr) : mayB G (degs G) = true := mayB_iff.2 ⟨degs_len G, fun x hx => by
  simp only [degs, List.mem_map] at hx
  obtain ⟨v, _, rfl⟩ := hx
  exact Int.natCast_nonneg _⟩
namespace CoresH
theorem is {G : Gr} (hG : G.Ok) (hn : G.n ≤ 1048576) : pre (some G) = true ∧ ∃ c, fn (some G) = (c, ()) ∧ IsCores G.n (nbG G) c := by
  have hN := nbG_ok hG
  have h3 : F3 (some G) (G.n : Int) 0 (List.replicate G.n 0) = some ((some G, ()), (degs G, ())) := by
    have key := F3_inv (g0 := some G) (t12 := (G.n : Int)) (fun v r => 0 ≤ v ∧ v ≤ G.n ∧ r.length = G.n ∧ ∀ j, j < G.n → r.getD j 0 = if j < v.toNat then ((nbG G j).length : Int) else 0) (fun v _ => G.n - v.toNat)
      (fun z => z = ((some G, ()), (degs G, ()))) (fun v r hi => by
        obtain ⟨h0, h1, h2, h3⟩ := hi
        unfold R3
        refine led_dif (fun hlt => ?_) (fun hge => led_x ?_)
        · obtain ⟨x, rfl⟩ := Int.eq_ofNat_of_zero_le h0
          have hw : IntKind.wrap .i64 ((x : Int) + 1) = (x : Int) + 1 := wr (by omega) (by omega)
          have hi1 : ((x : Int) + 1).toNat = x + 1 := by omega
          have hd : Degree.fn (some G) (x : Int) = (((nbG G x).length : Int), ()) := by simp only [Degree.fn, gr_some, Int.natCast_nonneg, if_true, Int.toNat_natCast, nbG, up_length]
          rw [hw, hd]
          simp only [Int.toNat_natCast]
          refine led_need (by rfl) (led_need h0 (led_need (by omega) (led_need (by omega) (led_k ⟨_, _, rfl, ⟨by omega, by omega, by rw [List.length_set, h2], fun j hj => ?_⟩, by omega⟩))))
          rw [getD_set, hi1]
          by_cases e : x = j
          · subst e
            rw [if_pos ⟨rfl, by omega⟩, if_pos (by omega)]
          · rw [if_neg (fun q => e q.1), h3 j hj, Int.toNat_natCast]
            by_cases q : j < x
            · rw [if_pos q, if_pos (by omega)]
            · rw [if_neg q, if_neg (by omega)]
        · have : r = degs G := list_ext_getD (by rw [h2, degs_len]) (fun j hj => by
            rw [h3 j (by omega), degs_getD, if_pos (by omega), if_pos (by omega)])
          rw [this]) 0 (List.replicate G.n 0) ⟨by omega, by omega, by simp, fun j hj => by simp [List.getD_eq_getElem?_getD, List.getElem?_replicate, hj]⟩
    obtain ⟨z, hz, hq⟩ := key
    rw [hz, hq]
  have hd0 : ∀ j, 0 ≤ (degs G).getD j 0 := getD_nonneg (mayB_iff.1 (degs_may G)).2
  obtain ⟨R, FS, hR⟩ := runs_ex (nbs := nbG G) (n := G.n) (est := degs G) (degs_len G) hd0
  have hR' := hR
  rw [← degs_clip] at hR'
  obtain ⟨r1, r2⟩ := RunH.is hG hn (degs_may G) hR'
  rw [degs_clip] at r2
  have hrun : run' (some G) = some ((RunH.fn (some G) (degs G)).1, ()) := by
    unfold run'
    simp only [N.pre, N.fn, gr_some, Option.isSome_some, if_true, Int.toNat_natCast, List.length_replicate]
    rw [if_pos (Int.natCast_nonneg _), if_pos (by omega)]
    simp only [h3, r1, if_true]
  obtain ⟨p1, p2⟩ := is_fn _ hrun
  refine ⟨p1, _, p2, ?_⟩
  rw [r2]
  have hLf := hR.left hN (degs_len G) hd0
  by_cases ha : anyTo (nbG G) G.n = true
  · rw [if_pos ha]
    exact hLf.isCores hN (fun j hj => by rw [degs_getD, if_pos hj]; exact Int.le_refl _)
  · rw [if_neg ha]
    have hz : ∀ v, v < G.n → (nbG G v).length = 0 := fun v hv => by
      rcases Nat.eq_zero_or_pos (nbG G v).length with e | e
      · exact e
      · exfalso
        apply ha
        simp only [anyTo, List.any_eq_true, List.mem_range, decide_eq_true_eq]
        exact ⟨v, hv, e⟩
    refine ⟨degs_len G, fun v hv => hd0 v, fun v hv => ?_, fun v hv hc => ?_⟩
    · rw [degs_getD, if_pos hv, hz v hv]
      exact inCore_zero hv
    · have := hc.lt.2
      rw [degs_getD, if_pos hv, hz v hv] at this
      omega
end CoresH
theorem exam7.is : exam7.pre = true ∧ exam7.fn = ([(0, 1), (0, 2), (1, 2), (2, 3), (3, 4)], ()) := exam7.is_fn rfl
theorem num7.is (n : Int) : num7.pre n = true ∧ num7.fn n = (n, ()) := num7.is_fn n rfl
def G7 : Gr := Gr.ofPairs 6 [(0, 1), (0, 2), (1, 2), (2, 3), (3, 4)]
theorem G7_ok : G7.Ok := ofPairs_ok (by decide) (by decide)
theorem sw7 : sweepTo (nbG G7) [2, 2, 3, 2, 1, 0] 6 = ([2, 2, 2, 1, 1, 0], 2, true) := by decide +kernel
theorem cl7 : clip (nbG G7) 6 [9, 9, 9, 9, 9, 9] = [2, 2, 3, 2, 1, 0] := by decide +kernel
theorem dg7 : degs G7 = [2, 2, 3, 2, 1, 0] := by decide +kernel
theorem sw7' : sweepTo (nbG G7) [2, 2, 2, 1, 1, 0] 6 = ([2, 2, 2, 1, 1, 0], 0, false) := by decide +kernel
theorem runs7 : Runs (nbG G7) 6 [2, 2, 3, 2, 1, 0] [2, 2, 2, 1, 1, 0] [2, 0] := .more sw7 (.stop sw7')
theorem first7.is : first7.pre = true ∧ first7.fn = (true, ()) := by
  refine first7.is_fn ?_
  unfold first7.run'
  have h1 : Make.fn 6 [(0, 1), (0, 2), (1, 2), (2, 3), (3, 4)] = (some G7, 0, ()) := by
    unfold Make.fn
    rw [if_pos (by decide), if_pos (by decide)]
    rfl
  have hH := HH.is (l := [3, 1, 4, 1, 5]) (m := 9) (by decide) (by decide)
  have hH2 : hOf [3, 1, 4, 1, 5] 9 = 3 := by decide +kernel
  have hm1 : mayB G7 [2, 2, 3, 2, 1, 0] = true := by decide +kernel
  have hm2 : mayB G7 [9, 9, 9, 9, 9, 9] = true := by decide +kernel
  obtain ⟨s1, s2⟩ := SweepH.is G7_ok (by decide) (est := [2, 2, 3, 2, 1, 0]) (by decide) (by decide)
  have sw := sw7
  rw [if_pos hm1, show G7.n = 6 from rfl, sw] at s2
  obtain ⟨r1, r2⟩ := RunH.is G7_ok (by decide) hm2 (R := [2, 2, 2, 1, 1, 0]) (FS := [2, 0]) (by rw [show G7.n = 6 from rfl, cl7]; exact runs7)
  rw [if_pos (by decide +kernel)] at r2
  obtain ⟨c1, c, c2, c3⟩ := CoresH.is G7_ok (by decide)
  have hL := runs7.left (show Nbs 6 (nbG G7) from nbG_ok G7_ok) rfl (fun j => getD_nonneg (by decide) j)
  have hc7 : IsCores G7.n (nbG G7) [2, 2, 2, 1, 1, 0] := hL.isCores (nbG_ok G7_ok) (fun j hj => by
    rw [← dg7, degs_getD, if_pos hj]
    exact Int.le_refl _)
  obtain rfl := c3.uniq hc7
  simp only [exam7.is.1, exam7.is.2, Make.pre, h1, (num7.is _).1, (num7.is _).2, hH.1, hH.2, hH2, s1, s2, r1, r2, c1, c2, SameIntsH.pre, SameIntsH.fn, if_true]
  simp
end Go.Proofs.Ythbojpaghbbnnaa.Z
