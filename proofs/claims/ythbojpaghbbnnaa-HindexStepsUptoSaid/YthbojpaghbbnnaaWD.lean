/- Plain laws of Sweep7, Run7, Cores7: the document's sweep, run and cores are those of the plain words. No condition. -/
import Derived.Test.YthbojpaghbbnnaaWB
import Derived.Test.YthbojpaghbbnnaaHC
import Derived.Test.YthbojpaghbbnnaaZP
namespace Go.Proofs.Ythbojpaghbbnnaa.Z
open Go Go.RowKit Hx
set_option linter.unusedVariables false
set_option linter.unusedSimpArgs false

abbrev nbl (tl : List (List Int)) : Nat → List Int := fun v => tl.getD v []
/-- Lists of neighbours. -/
structure Lok (n : Nat) (tl : List (List Int)) : Prop where
  len : tl.length = n
  N : Nbs n (nbl tl)
  small : n ≤ 1048576
  rows : ∀ v, (nbl tl v).length ≤ 1048576
theorem vals_snoc {l r : List Int} {i : Nat} (h : i < l.length) : vals (l.take (i + 1)) r = vals (l.take i) r ++ [r.getD (l.getD i 0).toNat 0] := by
  rw [take_snoc 0 l i h]
  simp [vals]
theorem vals_len (l r : List Int) : (vals l r).length = l.length := by simp [vals]
theorem H7.is {l : List Int} {most : Int} (h : l.length < 2 ^ 62) : H7.pre l most = true ∧ H7.fn l most = (hOf l most, ()) := H7.is_fn _ _ (H7.run_eq (decide_eq_true h))
theorem here.is {l : List Int} {left : List Bool} (h : l.length < 2 ^ 62) (h1 : ∀ x ∈ l, 0 ≤ x ∧ x < (left.length : Int)) : here.pre l left = true ∧ here.fn l left = (inSet (fun u => left.getD u false) l, ()) := here.is_fn _ _ (here.run_eq (decide_eq_true ⟨h, h1⟩))
namespace Sweep7
theorem F9_is {tl : List (List Int)} {falls v : Int} {past : Bool} {r0 : List Int} (hv : 0 ≤ v) (hv1 : v < tl.length) (hr : ∀ u ∈ tl.getD v.toNat [], 0 ≤ u ∧ u < r0.length) (hl : (tl.getD v.toNat []).length ≤ 1048576) :
    F9 tl falls past v 0 r0 [] = some ((tl, falls, past, v, ()), (r0, vals (tl.getD v.toNat []) r0, ())) := by
  generalize hL : tl.getD v.toNat [] = L at *
  have key := F9_inv (to0 := tl) (falls8 := falls) (past9 := past) (v10 := v) (r0 := r0) (fun i r1 => 0 ≤ i ∧ i ≤ L.length ∧ r1 = vals (L.take i.toNat) r0) (fun i _ => L.length - i.toNat)
    (fun z => z = ((tl, falls, past, v, ()), (r0, vals L r0, ()))) (fun i r1 hi => by
      obtain ⟨h0, h1, rfl⟩ := hi
      unfold R9
      rw [hL]
      refine led_need hv (led_need hv1 (led_dif (fun hlt => ?_) (fun hge => ?_)))
      · have hx := hr _ (mem_getD 0 L i.toNat (by omega))
        have hw : IntKind.wrap .i64 (i + 1) = i + 1 := wr (by omega) (by omega)
        have hi1 : (i + 1).toNat = i.toNat + 1 := by omega
        rw [hw]
        refine led_need hv (led_need hv1 (led_need h0 (led_need hlt (led_need hx.1 (led_need hx.2 (led_need ?_ (led_k ⟨_, _, rfl, ⟨by omega, by omega, ?_⟩, by omega⟩)))))))
        · rw [vals_len, List.length_take, List.length_singleton]; omega
        · rw [hi1, vals_snoc (by omega)]
      · refine led_x ?_
        rw [take_all (by omega)]) 0 [] ⟨by omega, by omega, rfl⟩
  obtain ⟨z, hz, hq⟩ := key
  rw [hz, hq]
theorem aheadOf_drop {L r : List Int} {v : Nat} {h old : Int} {i : Nat} (hi : i < L.length) : aheadOf (L.drop i) v r h old = ((decide (L.getD i 0 < (v : Int)) && (decide (r.getD (L.getD i 0).toNat 0 > h) && decide (r.getD (L.getD i 0).toNat 0 ≤ old))) || aheadOf (L.drop (i + 1)) v r h old) := by
  rw [drop_getD 0 L i hi]
  rfl
theorem F18_is {tl : List (List Int)} {falls v h old : Int} {past : Bool} {r0 : List Int} (hv : 0 ≤ v) (hv1 : v < tl.length) (hr : ∀ u ∈ tl.getD v.toNat [], 0 ≤ u ∧ u < r0.length) (hl : (tl.getD v.toNat []).length ≤ 1048576) :
    F18 tl falls past v h old 0 r0 = some ((tl, falls, past || aheadOf (tl.getD v.toNat []) v.toNat r0 h old, v, ()), (r0, ())) := by
  generalize hL : tl.getD v.toNat [] = L at *
  have key := F18_inv (to0 := tl) (falls8 := falls) (v10 := v) (h13 := h) (old14 := old) (r0 := r0) (fun p i => 0 ≤ i ∧ i ≤ L.length ∧ (p || aheadOf (L.drop i.toNat) v.toNat r0 h old) = (past || aheadOf L v.toNat r0 h old)) (fun _ i => L.length - i.toNat)
    (fun z => z = ((tl, falls, past || aheadOf L v.toNat r0 h old, v, ()), (r0, ()))) (fun p i hi => by
      obtain ⟨h0, h1, h2⟩ := hi
      unfold R18
      rw [hL]
      refine led_need hv (led_need hv1 (led_dif (fun hlt => ?_) (fun hge => ?_)))
      · have hx := hr _ (mem_getD 0 L i.toNat (by omega))
        have hw : IntKind.wrap .i64 (i + 1) = i + 1 := wr (by omega) (by omega)
        have hi1 : (i + 1).toNat = i.toNat + 1 := by omega
        have hvn : ((v.toNat : Nat) : Int) = v := by omega
        rw [aheadOf_drop (by omega), hvn] at h2
        rw [hw]
        have go : ∀ p', (p' || aheadOf (L.drop (i.toNat + 1)) v.toNat r0 h old) = (past || aheadOf L v.toNat r0 h old) → (0 ≤ i + 1 ∧ i + 1 ≤ L.length ∧ (p' || aheadOf (L.drop (i + 1).toNat) v.toNat r0 h old) = (past || aheadOf L v.toNat r0 h old)) := fun p' e => ⟨by omega, by omega, by rw [hi1]; exact e⟩
        refine led_need hv (led_need hv1 (led_need h0 (led_need hlt (led_dif (fun c1 => ?_) (fun c1 => ?_)))))
        · refine led_need hx.1 (led_need hx.2 (led_dif (fun c2 => ?_) (fun c2 => ?_)))
          · refine led_need hx.1 (led_need hx.2 (led_dif (fun c3 => ?_) (fun c3 => ?_)))
            · refine led_k ⟨_, _, rfl, go _ ?_, by omega⟩
              rw [← h2, decide_eq_true c1, decide_eq_true c2, decide_eq_true c3]
              simp
            · refine led_k ⟨_, _, rfl, go _ ?_, by omega⟩
              rw [← h2, decide_eq_false c3]
              simp
          · refine led_k ⟨_, _, rfl, go _ ?_, by omega⟩
            rw [← h2, decide_eq_false c2]
            simp
        · refine led_k ⟨_, _, rfl, go _ ?_, by omega⟩
          rw [← h2, decide_eq_false c1]
          simp
      · refine led_x ?_
        rw [List.drop_eq_nil_of_le (by omega)] at h2
        rw [← h2]
        simp [aheadOf]) past 0 ⟨by omega, by omega, rfl⟩
  obtain ⟨z, hz, hq⟩ := key
  rw [hz, hq]
theorem F5_is {tl : List (List Int)} {n : Nat} (hL : Lok n tl) {est : List Int} (hl : est.length = n) : F5 tl 0 false 0 est = some (((sweepTo (nbl tl) est n).2.1, (sweepTo (nbl tl) est n).2.2, ()), ((sweepTo (nbl tl) est n).1, ())) := by
  have hsm := hL.small
  have hln := hL.len
  have key := F5_inv (to0 := tl) (fun falls past v r => 0 ≤ v ∧ v ≤ n ∧ sweepTo (nbl tl) est v.toNat = (r, falls, past)) (fun _ _ v _ => n - v.toNat)
    (fun z => z = (((sweepTo (nbl tl) est n).2.1, (sweepTo (nbl tl) est n).2.2, ()), ((sweepTo (nbl tl) est n).1, ()))) (fun falls past v r hi => by
      obtain ⟨h0, h1, h2⟩ := hi
      have hrl := sweepTo_len (nbl tl) est v.toNat
      have hf := sweepTo_falls (nbl tl) est v.toNat (by omega)
      have hs := sweepTo_succ (nbl tl) est v.toNat
      rw [h2] at hrl hf hs
      simp only at hrl hf
      unfold R5
      refine led_dif (fun hlt => ?_) (fun hge => ?_)
      · have hvn : ((v.toNat : Nat) : Int) = v := by omega
        have hr : ∀ u ∈ tl.getD v.toNat [], 0 ≤ u ∧ u < (r.length : Int) := fun u hu => by
          have := hL.N.rng v.toNat (by omega) u hu
          omega
        have hrow := hL.rows v.toNat
        have hw : IntKind.wrap .i64 (v + 1) = v + 1 := wr (by omega) (by omega)
        have hwf : IntKind.wrap .i64 (falls + 1) = falls + 1 := wr (by omega) (by omega)
        have hi1 : (v + 1).toNat = v.toNat + 1 := by omega
        have hH := H7.is (l := vals (tl.getD v.toNat []) r) (most := r.getD v.toNat 0) (by rw [vals_len]; simp only [nbl] at hrow; omega)
        simp only [F9_is h0 hlt hr hrow]
        rw [hw]
        refine led_need h0 (led_need (by omega) (led_need hH.1 (led_need h0 (led_need (by omega) ?_))))
        simp only [hH.2]
        have hsw : swStep (nbl tl) (r, falls, past) v.toNat = if hOf (vals (nbl tl v.toNat) r) (r.getD v.toNat 0) ≥ r.getD v.toNat 0 then (r, falls, past)
          else (r.set v.toNat (hOf (vals (nbl tl v.toNat) r) (r.getD v.toNat 0)), falls + 1, past || aheadOf (nbl tl v.toNat) v.toNat (r.set v.toNat (hOf (vals (nbl tl v.toNat) r) (r.getD v.toNat 0))) (hOf (vals (nbl tl v.toNat) r) (r.getD v.toNat 0)) (r.getD v.toNat 0)) := rfl
        refine led_dif (fun c => ?_) (fun c => ?_)
        · rw [if_pos c] at hsw
          exact led_k ⟨_, _, _, _, rfl, ⟨by omega, by omega, by rw [hi1, hs, hsw]⟩, by omega⟩
        · rw [if_neg c] at hsw
          refine led_need h0 (led_need (by omega) (led_need (by omega) ?_))
          rw [hwf]
          simp only [F18_is (r0 := r.set v.toNat (hOf (vals (tl.getD v.toNat []) r) (r.getD v.toNat 0))) h0 hlt (by rw [List.length_set]; exact hr) hrow]
          rw [hw]
          exact led_k ⟨_, _, _, _, rfl, ⟨by omega, by omega, by rw [hi1, hs, hsw]⟩, by omega⟩
      · refine led_x ?_
        obtain rfl : v = n := by omega
        rw [Int.toNat_natCast] at h2
        rw [h2]) 0 false 0 est ⟨by omega, by omega, rfl⟩
  obtain ⟨z, hz, hq⟩ := key
  rw [hz, hq]
theorem is {tl : List (List Int)} {n : Nat} (hL : Lok n tl) {est : List Int} (hl : est.length = n) : pre tl est = true ∧ fn tl est = ((sweepTo (nbl tl) est n).1, (sweepTo (nbl tl) est n).2.1, (sweepTo (nbl tl) est n).2.2, ()) := by
  have hsm := hL.small
  refine is_fn _ _ ?_
  unfold run'
  rw [if_pos (by omega), List.nil_append, F5_is hL hl]
end Sweep7
namespace Run7
theorem F4_is {tl : List (List Int)} {n : Nat} (hL : Lok n tl) {est : List Int} (hl : est.length = n) : F4 tl false 0 est = some ((tl, anyTo (nbl tl) n, ()), (clip (nbl tl) n est, ())) := by
  have hsm := hL.small
  have hln := hL.len
  have key := F4_inv (to0 := tl) (fun again v r => 0 ≤ v ∧ v ≤ n ∧ again = anyTo (nbl tl) v.toNat ∧ r.length = n ∧ ∀ j, j < n → r.getD j 0 = if j < v.toNat then min (est.getD j 0) ((nbl tl j).length : Int) else est.getD j 0) (fun _ v _ => n - v.toNat)
    (fun z => z = ((tl, anyTo (nbl tl) n, ()), (clip (nbl tl) n est, ()))) (fun again v r hi => by
      obtain ⟨h0, h1, h2, h3, h4⟩ := hi
      unfold R4
      refine led_dif (fun hlt => ?_) (fun hge => ?_)
      · have hw : IntKind.wrap .i64 (v + 1) = v + 1 := wr (by omega) (by omega)
        have hi1 : (v + 1).toNat = v.toNat + 1 := by omega
        have hsu := anyTo_succ (nbl tl) v.toNat
        have hv := h4 v.toNat (by omega)
        rw [if_neg (by omega)] at hv
        have e1 : (nbl tl v.toNat) = tl.getD v.toNat [] := rfl
        rw [e1] at hsu
        rw [hw]
        have go : ∀ (r' : List Int), r'.length = n → (∀ j, j < n → r'.getD j 0 = if j = v.toNat then min (r.getD j 0) ((tl.getD v.toNat []).length : Int) else r.getD j 0) → ∀ j, j < n → r'.getD j 0 = if j < (v + 1).toNat then min (est.getD j 0) ((nbl tl j).length : Int) else est.getD j 0 := by
          intro r' hr' h j hj
          rw [h j hj, hi1]
          by_cases e : j = v.toNat
          · subst e
            rw [if_pos rfl, if_pos (by omega), hv]
          · rw [if_neg e, h4 j hj]
            by_cases q : j < v.toNat
            · rw [if_pos q, if_pos (by omega)]
            · rw [if_neg q, if_neg (by omega)]
        refine led_need h0 (led_need (by omega) (led_need h0 (led_need hlt (led_dif (fun c => ?_) (fun c => ?_)))))
        · have hset : ∀ j, j < n → (r.set v.toNat ((tl.getD v.toNat []).length : Int)).getD j 0 = if j = v.toNat then min (r.getD j 0) ((tl.getD v.toNat []).length : Int) else r.getD j 0 := by
            intro j hj
            rw [getD_set]
            by_cases e : j = v.toNat
            · subst e
              rw [if_pos ⟨rfl, by omega⟩, if_pos rfl]; omega
            · rw [if_neg (fun k => e k.1.symm), if_neg e]
          have hr' : (r.set v.toNat ((tl.getD v.toNat []).length : Int)).length = n := by rw [List.length_set, h3]
          refine led_need h0 (led_need hlt (led_need h0 (led_need (by omega) (led_need (by omega) (led_if (fun ca => ?_) (fun ca => ?_))))))
          · refine led_need h0 (led_need hlt ?_)
            refine led_k ⟨_, _, _, rfl, ⟨by omega, by omega, ?_, hr', go _ hr' hset⟩, by omega⟩
            rw [hi1, hsu, ← h2, ca]
            simp
          · refine led_k ⟨_, _, _, rfl, ⟨by omega, by omega, ?_, hr', go _ hr' hset⟩, by omega⟩
            rw [hi1, hsu, ← h2]
            cases again
            · exact absurd rfl ca
            · rfl
        · have hset : ∀ j, j < n → r.getD j 0 = if j = v.toNat then min (r.getD j 0) ((tl.getD v.toNat []).length : Int) else r.getD j 0 := by
            intro j hj
            by_cases e : j = v.toNat
            · subst e; rw [if_pos rfl]; omega
            · rw [if_neg e]
          refine led_if (fun ca => ?_) (fun ca => ?_)
          · refine led_need h0 (led_need hlt ?_)
            refine led_k ⟨_, _, _, rfl, ⟨by omega, by omega, ?_, h3, go _ h3 hset⟩, by omega⟩
            rw [hi1, hsu, ← h2, ca]
            simp
          · refine led_k ⟨_, _, _, rfl, ⟨by omega, by omega, ?_, h3, go _ h3 hset⟩, by omega⟩
            rw [hi1, hsu, ← h2]
            cases again
            · exact absurd rfl ca
            · rfl
      · refine led_x ?_
        obtain rfl : v = n := by omega
        rw [Int.toNat_natCast] at h2 h4
        have : r = clip (nbl tl) n est := list_ext_getD (by rw [h3, clip_len]) (fun j hj => by
          rw [h4 j (by omega), clip_getD, if_pos (by omega), if_pos (by omega)])
        rw [h2, this]) false 0 est ⟨by omega, by omega, rfl, hl, fun j _ => by rw [if_neg (by simp)]⟩
  obtain ⟨z, hz, hq⟩ := key
  rw [hz, hq]
theorem F10_is {tl : List (List Int)} {n : Nat} (hL : Lok n tl) {e R FS : List Int} (hle : e.length = n) (h0 : ∀ j, 0 ≤ e.getD j 0) (hs : Hx.sum e ≤ 1099511627776) (hR : Runs (nbl tl) n e R FS) : F10 tl e true [] = some ((R, ()), (FS, ())) := by
  have hsm := hL.small
  have hln := hL.len
  have hLf := hR.left hL.N hle h0
  have hmany := hLf.many
  have hsr := sum_getD_nonneg hLf.nonneg
  have key := F10_inv (to0 := tl) (fun r6 again acc => r6.length = n ∧ (∀ j, 0 ≤ r6.getD j 0) ∧ (again = true → ∃ fs, Runs (nbl tl) n r6 R fs ∧ FS = acc ++ fs) ∧ (again = false → r6 = R ∧ acc = FS)) (fun _ _ acc => FS.length - acc.length)
    (fun z => z = ((R, ()), (FS, ()))) (fun r6 again acc hi => by
      obtain ⟨h1, h2, h3, h4⟩ := hi
      unfold R10
      refine led_if (fun c => ?_) (fun c => ?_)
      · obtain ⟨fs, g1, g2⟩ := h3 c
        have hS := Sweep7.is hL h1
        have hlen := sweepTo_len (nbl tl) r6 n
        have hnn := fun j => sweepTo_nonneg h2 (nbs := nbl tl) n (by omega) j
        have hfl : acc.length < FS.length := by
          have : fs ≠ [] := (g1.left hL.N h1 h2).some
          rw [g2, List.length_append]
          have := List.length_pos_iff.2 this
          omega
        refine led_need hS.1 (led_need ?_ ?_)
        · rw [List.length_singleton]; omega
        · simp only [hS.2]
          refine led_k ⟨_, _, _, rfl, ⟨by rw [hlen, h1], hnn, fun hb => ?_, fun hb => ?_⟩, by rw [List.length_append, List.length_singleton]; omega⟩
          · cases g1 with
            | stop k => rw [k] at hb; cases hb
            | more k k' => rw [k]; exact ⟨_, k', by rw [g2]; simp⟩
          · cases g1 with
            | stop k => rw [k]; exact ⟨rfl, g2.symm⟩
            | more k _ => rw [k] at hb; cases hb
      · obtain ⟨rfl, rfl⟩ := h4 (by simpa using c)
        exact led_x rfl) e true [] ⟨hle, h0, fun _ => ⟨FS, hR, rfl⟩, fun h => by cases h⟩
  obtain ⟨z, hz, hq⟩ := key
  rw [hz, hq]
theorem F10_no {tl : List (List Int)} {e : List Int} : F10 tl e false [] = some ((e, ()), ([], ())) := by
  have key := F10_inv (to0 := tl) (fun r6 again acc => r6 = e ∧ again = false ∧ acc = []) (fun _ _ _ => 0) (fun z => z = ((e, ()), ([], ()))) (fun r6 again acc hi => by
    obtain ⟨rfl, rfl, rfl⟩ := hi
    unfold R10
    exact led_no (by simp) (led_x rfl)) e false [] ⟨rfl, rfl, rfl⟩
  obtain ⟨z, hz, hq⟩ := key
  rw [hz, hq]
theorem is {tl : List (List Int)} {n : Nat} (hL : Lok n tl) {est R FS : List Int} (hl : est.length = n) (h0 : ∀ j, 0 ≤ est.getD j 0) (hR : Runs (nbl tl) n (clip (nbl tl) n est) R FS) :
    pre tl est = true ∧ fn tl est = if anyTo (nbl tl) n = true then (R, FS, ()) else (clip (nbl tl) n est, [], ()) := by
  have hsm := hL.small
  refine is_fn _ _ ?_
  unfold run'
  rw [if_pos (by omega), List.nil_append, F4_is hL hl]
  by_cases ha : anyTo (nbl tl) n = true
  · rw [if_pos ha]
    simp only [ha, F10_is hL (clip_len _ _ _) (clip_nonneg h0) (clip_sum hL.rows hsm) hR]
  · rw [if_neg ha]
    have ha' : anyTo (nbl tl) n = false := by simpa using ha
    simp only [ha', F10_no]
end Run7
end Go.Proofs.Ythbojpaghbbnnaa.Z
