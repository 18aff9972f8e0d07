/- Plain laws of package hindex: its sweeps, runs and cores are those of the plain words; first of chapter 7 answers true. No condition. -/
import Derived.Test.YthbojpaghbbnnaaVA
import Derived.Test.YthbojpaghbbnnaaWH
import Derived.Test.YthbojpaghbbnnaaHC
namespace Go.Proofs.Ythbojpaghbbnnaa.Z
open Go Go.RowKit Hx
set_option linter.unusedVariables false
set_option linter.unusedSimpArgs false
abbrev nbG (G : Gr) : Nat → List Int := fun v => up (G.nb v)
theorem nbG_ok {G : Gr} (hG : G.Ok) : Nbs G.n (nbG G) where
  rng v hv u hu := by
    simp only [nbG, up, List.mem_map] at hu
    obtain ⟨w, hw, rfl⟩ := hu
    have := hG.rng' ((Gr.mem_nb hG).1 hw)
    omega
  irr v hv h := by
    simp only [nbG, up, List.mem_map] at h
    obtain ⟨w, hw, e⟩ := h
    obtain rfl : w = v := Int.ofNat_inj.1 e
    exact adj_ne hG ((Gr.mem_nb hG).1 hw) rfl
  symm u v hu hv h := by
    simp only [nbG, up, List.mem_map] at h ⊢
    obtain ⟨w, hw, e⟩ := h
    obtain rfl : w = u := Int.ofNat_inj.1 e
    exact ⟨v, (Gr.mem_nb hG).2 (by rw [hG.symm]; exact (Gr.mem_nb hG).1 hw), rfl⟩
  nodup v hv := nodup_map (fun a b e => Int.ofNat_inj.1 e) (G.nb_nodup v)
theorem nbG_len {G : Gr} (v : Nat) : (nbG G v).length ≤ G.n := by
  rw [nbG, up_length]; exact G.nb_length_le v
theorem nbFnG {G : Gr} (u : Nat) : Neighbours.fn (some G) (u : Int) = (nbG G u, ()) := by
  simp only [Neighbours.fn, gr_some, Gr.nbz, Int.natCast_nonneg, if_true, Int.toNat_natCast]
theorem HH.is {l : List Int} {m : Int} (h : l.length ≤ 1099511627776) (hm : wf m = true) : HH.pre l m = true ∧ HH.fn l m = (hOf l m, ()) := by
  refine ⟨?_, rfl⟩
  show (decide (l.length ≤ 1099511627776) && wf m) = true
  rw [decide_eq_true h, hm]
  rfl
def mayB (G : Gr) (est : List Int) : Bool := decide (est.length = G.n) && decide (∀ x ∈ est, 0 ≤ x)
theorem may.is {G : Gr} (hn : G.n ≤ 1048576) {est : List Int} : may.pre (some G) est = true ∧ may.fn (some G) est = (mayB G est, ()) := by
  refine may.is_fn _ _ ?_
  unfold may.run' mayB
  by_cases hl : est.length = G.n
  · have key := may.F4_inv (t12 := est) (t13 := (est.length : Int)) (fun i => 0 ≤ i ∧ i ≤ est.length ∧ ∀ j : Nat, (j : Int) < i → 0 ≤ est.getD j 0) (fun i => est.length - i.toNat) (fun z => z = if (∀ x ∈ est, 0 ≤ x) then Sum.inr ((), ()) else Sum.inl ((false, ()), ())) (fun i hi => by
      obtain ⟨h0, h1, h2⟩ := hi
      unfold may.R4
      have hw : i < est.length → IntKind.wrap .i64 (i + 1) = i + 1 := fun _ => wr (by omega) (by omega)
      refine led_dif (fun q1 => ?_) (fun q1 => led_x ?_)
      · rw [hw q1]
        refine led_need h0 (led_need q1 (led_dif (fun q2 => led_x ?_) (fun q2 => led_k ⟨_, rfl, ⟨by omega, by omega, fun j hj => ?_⟩, by omega⟩)))
        · rw [if_neg]
          intro h
          have := h _ (mem_getD 0 est i.toNat (by omega))
          omega
        · by_cases e : (j : Int) < i
          · exact h2 j e
          · have : j = i.toNat := by omega
            subst this; omega
      · rw [if_pos]
        intro x hx
        obtain ⟨j, hj, e⟩ := (mem_idx 0).1 hx
        have := h2 j (by omega)
        omega) 0 ⟨by omega, by omega, fun j hj => by omega⟩
    obtain ⟨z, hz, hq⟩ := key
    have hne : (((est.length : Nat) : Int) != (G.n : Int)) = false := by simp [hl]
    simp only [N.pre, N.fn, gr_some, Option.isSome_some, if_true, hne, Bool.false_eq_true, if_false, hz, hq, decide_eq_true hl, Bool.true_and]
    by_cases h : ∀ x ∈ est, 0 ≤ x
    · simp only [if_pos h, decide_eq_true h]
    · simp only [if_neg h, decide_eq_false h]
  · have hne : (((est.length : Nat) : Int) != (G.n : Int)) = true := by simp; omega
    simp only [N.pre, N.fn, gr_some, Option.isSome_some, if_true, hne, decide_eq_false hl, Bool.false_and]
namespace sweepH
theorem F8_is {g : Option Gr} {falls v old t18 t19 : Int} {past : Bool} {L r0 : List Int} (hr : ∀ u ∈ L, 0 ≤ u ∧ u < r0.length) (hl : L.length ≤ 1048576) :
    F8 g falls past v old L t18 t19 L (L.length : Int) 0 r0 [] = some ((g, falls, past, v, old, L, t18, t19, ()), (r0, vals L r0, ())) := by
  have key := F8_inv (g0 := g) (falls6 := falls) (past7 := past) (v8 := v) (old9 := old) (to10 := L) (t18 := t18) (t19 := t19) (t27 := L) (t28 := (L.length : Int)) (r0 := r0) (fun i r1 => 0 ≤ i ∧ i ≤ L.length ∧ r1 = vals (L.take i.toNat) r0) (fun i _ => L.length - i.toNat)
    (fun z => z = ((g, falls, past, v, old, L, t18, t19, ()), (r0, vals L r0, ()))) (fun i r1 hi => by
      obtain ⟨h0, h1, rfl⟩ := hi
      unfold R8
      refine led_dif (fun hlt => ?_) (fun hge => led_x (by rw [take_all (by omega)]))
      have hx := hr _ (mem_getD 0 L i.toNat (by omega))
      have hw : IntKind.wrap .i64 (i + 1) = i + 1 := wr (by omega) (by omega)
      have hi1 : (i + 1).toNat = i.toNat + 1 := by omega
      have hvl : ∀ M : List Int, (vals M r0).length = M.length := fun M => by simp [vals]
      rw [hw]
      refine led_need h0 (led_need hlt (led_need hx.1 (led_need hx.2 (led_need ?_ (led_k ⟨_, _, rfl, ⟨by omega, by omega, ?_⟩, by omega⟩)))))
      · rw [hvl, List.length_take, List.length_singleton]; omega
      · rw [hi1, take_snoc 0 L i.toNat (by omega)]
        simp [vals]) 0 [] ⟨by omega, by omega, rfl⟩
  obtain ⟨z, hz, hq⟩ := key
  rw [hz, hq]
theorem aheadOf_drop' {L r : List Int} {v : Nat} {h old : Int} {i : Nat} (hi : i < L.length) : aheadOf (L.drop i) v r h old = ((decide (L.getD i 0 < (v : Int)) && (decide (r.getD (L.getD i 0).toNat 0 > h) && decide (r.getD (L.getD i 0).toNat 0 ≤ old))) || aheadOf (L.drop (i + 1)) v r h old) := by
  rw [drop_getD 0 L i hi]
  rfl
theorem F17_is {g : Option Gr} {falls v h old t18 t19 : Int} {past : Bool} {L r0 : List Int} (hv : 0 ≤ v) (hr : ∀ u ∈ L, 0 ≤ u ∧ u < r0.length) (hl : L.length ≤ 1048576) :
    F17 g falls past v old h t18 t19 L (L.length : Int) 0 r0 = some ((g, falls, past || aheadOf L v.toNat r0 h old, t18, t19, ()), (r0, ())) := by
  have key := F17_inv (g0 := g) (falls6 := falls) (v8 := v) (old9 := old) (h14 := h) (t18 := t18) (t19 := t19) (t53 := L) (t54 := (L.length : Int)) (r0 := r0) (fun p i => 0 ≤ i ∧ i ≤ L.length ∧ (p || aheadOf (L.drop i.toNat) v.toNat r0 h old) = (past || aheadOf L v.toNat r0 h old)) (fun _ i => L.length - i.toNat)
    (fun z => z = ((g, falls, past || aheadOf L v.toNat r0 h old, t18, t19, ()), (r0, ()))) (fun p i hi => by
      obtain ⟨h0, h1, h2⟩ := hi
      unfold R17
      refine led_dif (fun hlt => ?_) (fun hge => ?_)
      · have hx := hr _ (mem_getD 0 L i.toNat (by omega))
        have hw : IntKind.wrap .i64 (i + 1) = i + 1 := wr (by omega) (by omega)
        have hi1 : (i + 1).toNat = i.toNat + 1 := by omega
        have hvn : ((v.toNat : Nat) : Int) = v := by omega
        rw [aheadOf_drop' (by omega), hvn] at h2
        rw [hw]
        have go : ∀ p', (p' || aheadOf (L.drop (i.toNat + 1)) v.toNat r0 h old) = (past || aheadOf L v.toNat r0 h old) → (0 ≤ i + 1 ∧ i + 1 ≤ L.length ∧ (p' || aheadOf (L.drop (i + 1).toNat) v.toNat r0 h old) = (past || aheadOf L v.toNat r0 h old)) := fun p' e => ⟨by omega, by omega, by rw [hi1]; exact e⟩
        refine led_need h0 (led_need hlt (led_if (fun cp => ?_) (fun cp => ?_)))
        · subst cp
          refine led_dif (fun c1 => ?_) (fun c1 => ?_)
          · refine led_need hx.1 (led_need hx.2 (led_dif (fun c2 => ?_) (fun c2 => ?_)))
            · refine led_need hx.1 (led_need hx.2 ?_)
              refine led_k ⟨_, _, rfl, go _ ?_, by omega⟩
              rw [← h2, decide_eq_true c1, decide_eq_true c2]
              simp
            · refine led_k ⟨_, _, rfl, go _ ?_, by omega⟩
              rw [← h2, decide_eq_false c2]
              simp
          · refine led_k ⟨_, _, rfl, go _ ?_, by omega⟩
            rw [← h2, decide_eq_false c1]
            simp
        · have cp' : p = true := by cases p; exact absurd rfl cp; rfl
          subst cp'
          refine led_k ⟨_, _, rfl, go _ ?_, by omega⟩
          rw [← h2]
          simp
      · refine led_x ?_
        rw [List.drop_eq_nil_of_le (by omega)] at h2
        rw [← h2]
        simp [aheadOf]) past 0 ⟨by omega, by omega, rfl⟩
  obtain ⟨z, hz, hq⟩ := key
  rw [hz, hq]
theorem is {G : Gr} (hG : G.Ok) (hn : G.n ≤ 1048576) {est : List Int} (hl : est.length = G.n) (h0e : ∀ j, 0 ≤ est.getD j 0) (hw0 : ∀ x ∈ est, wf x = true) :
    pre (some G) est = true ∧ fn (some G) est = ((sweepTo (nbG G) est G.n).1, (sweepTo (nbG G) est G.n).2.1, (sweepTo (nbG G) est G.n).2.2, ()) := by
  have hN := nbG_ok hG
  have hwfj : ∀ j, wf (est.getD j 0) = true := fun j => by
    rcases Nat.lt_or_ge j est.length with q | q
    · exact hw0 _ (mem_getD 0 est j q)
    · rw [List.getD_eq_getElem?_getD, List.getElem?_eq_none q]; rfl
  have key := F3_inv (g0 := some G) (t18 := (est.length : Int)) (fun falls past v r => 0 ≤ v ∧ v ≤ G.n ∧ sweepTo (nbG G) est v.toNat = (r, falls, past)) (fun _ _ v _ => G.n - v.toNat)
    (fun z => z = (((sweepTo (nbG G) est G.n).2.1, (sweepTo (nbG G) est G.n).2.2, ()), ((sweepTo (nbG G) est G.n).1, ()))) (fun falls past v r hi => by
      obtain ⟨h0, h1, h2⟩ := hi
      have hrl := sweepTo_len (nbG G) est v.toNat
      have hf := sweepTo_falls (nbG G) est v.toNat (by omega)
      have hs := sweepTo_succ (nbG G) est v.toNat
      have hle := sweepTo_le (nbG G) est v.toNat (by omega) v.toNat
      have hnn := sweepTo_nonneg (nbs := nbG G) h0e v.toNat (by omega) v.toNat
      rw [h2] at hrl hf hs hle hnn
      simp only at hrl hf hle hnn
      unfold R3
      refine led_dif (fun hlt => ?_) (fun hge => ?_)
      · obtain ⟨x, rfl⟩ := Int.eq_ofNat_of_zero_le h0
        rw [Int.toNat_natCast] at hs hle hnn h2
        have hx : x < G.n := by omega
        have hr : ∀ u ∈ nbG G x, 0 ≤ u ∧ u < (r.length : Int) := fun u hu => by
          have := hN.rng x hx u hu
          omega
        have hrow := nbG_len (G := G) x
        have hw : IntKind.wrap .i64 ((x : Int) + 1) = (x : Int) + 1 := wr (by omega) (by omega)
        have hwf : IntKind.wrap .i64 (falls + 1) = falls + 1 := wr (by omega) (by omega)
        have hi1 : ((x : Int) + 1).toNat = x + 1 := by omega
        have hwold : wf (r.getD x 0) = true := by
          have h3 := wf_iff.1 (hwfj x)
          exact wf_iff.2 ⟨by omega, by have := h3.2; omega⟩
        have hH := HH.is (l := vals (nbG G x) r) (m := r.getD x 0) (by simp only [vals, List.length_map]; omega) hwold
        have hole := hOf_le (l := vals (nbG G x) r) hnn
        rw [Int.toNat_natCast]
        refine led_need h0 (led_need (by omega) (led_need (by rfl) ?_))
        rw [nbFnG]
        simp only [F8_is hr (show (nbG G x).length ≤ 1048576 by omega)]
        rw [hw]
        refine led_need hH.1 ?_
        simp only [hH.2]
        have hsw : swStep (nbG G) (r, falls, past) x = if hOf (vals (nbG G x) r) (r.getD x 0) ≥ r.getD x 0 then (r, falls, past)
          else (r.set x (hOf (vals (nbG G x) r) (r.getD x 0)), falls + 1, past || aheadOf (nbG G x) x (r.set x (hOf (vals (nbG G x) r) (r.getD x 0))) (hOf (vals (nbG G x) r) (r.getD x 0)) (r.getD x 0)) := rfl
        refine led_if (fun c => ?_) (fun c => ?_)
        · have c' : hOf (vals (nbG G x) r) (r.getD x 0) = r.getD x 0 := by simpa using c
          rw [if_pos (by omega)] at hsw
          exact led_k ⟨_, _, _, _, rfl, ⟨by omega, by omega, by rw [hi1, hs, hsw]⟩, by omega⟩
        · have c' : hOf (vals (nbG G x) r) (r.getD x 0) ≠ r.getD x 0 := by simpa using c
          rw [if_neg (by omega)] at hsw
          refine led_need h0 (led_need (by omega) (led_need (by omega) ?_))
          rw [hwf]
          simp only [F17_is (r0 := r.set x (hOf (vals (nbG G x) r) (r.getD x 0))) h0 (by rw [List.length_set]; exact hr) (show (nbG G x).length ≤ 1048576 by omega), Int.toNat_natCast]
          rw [hw]
          exact led_k ⟨_, _, _, _, rfl, ⟨by omega, by omega, by rw [hi1, hs, hsw]⟩, by omega⟩
      · refine led_x ?_
        obtain rfl : v = G.n := by omega
        rw [Int.toNat_natCast] at h2
        rw [h2]) 0 false 0 est ⟨by omega, by omega, rfl⟩
  obtain ⟨z, hz, hq⟩ := key
  refine is_fn _ _ ?_
  unfold run'
  rw [hz, hq]
end sweepH
end Go.Proofs.Ythbojpaghbbnnaa.Z
