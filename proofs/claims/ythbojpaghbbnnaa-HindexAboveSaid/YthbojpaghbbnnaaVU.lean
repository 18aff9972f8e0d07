/- Plain law: HindexCores answers true. No condition. -/
import Derived.Test.YthbojpaghbbnnaaWD
import Derived.Test.YthbojpaghbbnnaaVT
namespace Go.Proofs.Ythbojpaghbbnnaa.Z
open Go Go.RowKit Hx
set_option linter.unusedVariables false
set_option linter.unusedSimpArgs false
namespace Cores7
abbrev lf (left : List Bool) : Nat → Bool := fun u => left.getD u false
theorem getD_setB (l : List Bool) (i j : Nat) (x : Bool) : (l.set i x).getD j false = if i = j ∧ i < l.length then x else l.getD j false := by
  simp only [List.getD_eq_getElem?_getD, List.getElem?_set]
  by_cases h : i = j
  · subst h
    by_cases k : i < l.length
    · simp [k]
    · simp [k]
  · simp [h]
theorem F5_is {tl : List (List Int)} {b : Bool} {r0 : List Int} (hs : tl.length ≤ 1048576) : F5 tl b 0 r0 (List.replicate tl.length false) = some ((tl, b, ()), (r0, List.replicate tl.length true, ())) := by
  have key := F5_inv (to0 := tl) (some5 := b) (r0 := r0) (fun v r => 0 ≤ v ∧ v ≤ tl.length ∧ r = List.replicate v.toNat true ++ List.replicate (tl.length - v.toNat) false) (fun v _ => tl.length - v.toNat)
    (fun z => z = ((tl, b, ()), (r0, List.replicate tl.length true, ()))) (fun v r hi => by
      obtain ⟨h0, h1, rfl⟩ := hi
      unfold R5
      refine led_dif (fun hlt => ?_) (fun hge => ?_)
      · have hw : IntKind.wrap .i64 (v + 1) = v + 1 := wr (by omega) (by omega)
        have hi1 : (v + 1).toNat = v.toNat + 1 := by omega
        have hl : (List.replicate v.toNat true ++ List.replicate (tl.length - v.toNat) false).length = tl.length := by simp; omega
        rw [hw]
        refine led_need h0 (led_need (by rw [hl]; omega) (led_need (by rw [hl]; omega) (led_k ⟨_, _, rfl, ⟨by omega, by omega, ?_⟩, by omega⟩)))
        rw [hi1]
        obtain ⟨m, hm⟩ : ∃ m, tl.length - v.toNat = m + 1 := ⟨tl.length - v.toNat - 1, by omega⟩
        rw [hm, show tl.length - (v.toNat + 1) = m by omega, List.replicate_succ, List.replicate_succ', List.set_append_right _ _ (by simp)]
        simp
      · refine led_x ?_
        obtain rfl : v = tl.length := by omega
        simp) 0 (List.replicate tl.length false) ⟨by omega, by omega, by simp⟩
  obtain ⟨z, hz, hq⟩ := key
  rw [hz, hq]
/-- The vertices that are left, counted. -/
def many (l : List Bool) : Nat := l.countP id
theorem many_set {l : List Bool} {v : Nat} (h : l.getD v false = true) : many (l.set v false) + 1 = many l := by
  induction l generalizing v with
  | nil => cases v <;> cases h
  | cons b l ih =>
    unfold many at *
    cases v with
    | zero =>
      have : b = true := h
      subst this
      simp
    | succ v =>
      have := ih (v := v) (by simpa using h)
      rw [List.set_cons_succ, List.countP_cons, List.countP_cons]
      omega
/-- One round over all vertices. -/
theorem F15_is {tl : List (List Int)} {n : Nat} (hL : Lok n tl) {k : Int} {r0 : List Int} {left : List Bool} (hl : left.length = n) (hc : Covers n (nbl tl) k left) :
    ∃ gone left', F15 tl k false 0 r0 left = some ((tl, k, gone, ()), (r0, left', ())) ∧ left'.length = n ∧ Covers n (nbl tl) k left' ∧ (∀ v, left'.getD v false = true → left.getD v false = true) ∧
      (gone = true → many left' < many left) ∧ (gone = false → left' = left ∧ ∀ v, v < n → left.getD v false = true → k ≤ inSet (lf left) (nbl tl v)) := by
  have hsm := hL.small
  have hln := hL.len
  have key := F15_inv (to0 := tl) (k7 := k) (r0 := r0) (fun gone v r => 0 ≤ v ∧ v ≤ n ∧ r.length = n ∧ Covers n (nbl tl) k r ∧ (∀ u, r.getD u false = true → left.getD u false = true) ∧ (gone = true → many r < many left) ∧
      (gone = false → r = left ∧ ∀ u, u < v.toNat → left.getD u false = true → k ≤ inSet (lf left) (nbl tl u))) (fun _ v _ => n - v.toNat)
    (fun z => ∃ gone left', z = ((tl, k, gone, ()), (r0, left', ())) ∧ left'.length = n ∧ Covers n (nbl tl) k left' ∧ (∀ v, left'.getD v false = true → left.getD v false = true) ∧
      (gone = true → many left' < many left) ∧ (gone = false → left' = left ∧ ∀ v, v < n → left.getD v false = true → k ≤ inSet (lf left) (nbl tl v))) (fun gone v r hi => by
      obtain ⟨h0, h1, h2, h3, h4, h5, h6⟩ := hi
      unfold R15
      refine led_dif (fun hlt => ?_) (fun hge => ?_)
      · have hw : IntKind.wrap .i64 (v + 1) = v + 1 := wr (by omega) (by omega)
        have hi1 : (v + 1).toNat = v.toNat + 1 := by omega
        rw [hw]
        refine led_need h0 (led_need (by omega) (led_if (fun c => ?_) (fun c => ?_)))
        · have hH := here.is (l := tl.getD v.toNat []) (left := r) (by have := hL.rows v.toNat; simp only [nbl] at this; omega) (fun x hx => by have := hL.N.rng v.toNat (by omega) x hx; omega)
          refine led_need h0 (led_need hlt (led_need hH.1 ?_))
          simp only [hH.2]
          refine led_dif (fun d => ?_) (fun d => ?_)
          · refine led_need h0 (led_need (by omega) (led_need (by omega) ?_))
            have hm := many_set c
            have hle : many r ≤ many left := by
              cases gone with
              | true => have := h5 rfl; omega
              | false => rw [(h6 rfl).1]; exact Nat.le_refl _
            refine led_k ⟨_, _, _, rfl, ⟨by omega, by omega, by rw [List.length_set, h2], h3.step d, fun u hu => ?_, fun _ => by omega, fun h => by cases h⟩, by omega⟩
            rw [getD_setB] at hu
            split at hu
            · cases hu
            · exact h4 u hu
          · refine led_k ⟨_, _, _, rfl, ⟨by omega, by omega, h2, h3, h4, h5, fun hg => ⟨(h6 hg).1, fun u hu hlu => ?_⟩⟩, by omega⟩
            by_cases e : u = v.toNat
            · subst e
              have e2 := (h6 hg).1
              subst e2
              have d' : ¬ inSet (lf r) (nbl tl v.toNat) < k := d
              omega
            · exact (h6 hg).2 u (by omega) hlu
        · refine led_k ⟨_, _, _, rfl, ⟨by omega, by omega, h2, h3, h4, h5, fun hg => ⟨(h6 hg).1, fun u hu hlu => ?_⟩⟩, by omega⟩
          by_cases e : u = v.toNat
          · subst e
            have e2 := (h6 hg).1
            subst e2
            exact absurd hlu c
          · exact (h6 hg).2 u (by omega) hlu
      · refine led_x ⟨_, _, rfl, h2, h3, h4, h5, fun hg => ⟨(h6 hg).1, fun u hu hlu => (h6 hg).2 u (by omega) hlu⟩⟩) false 0 left ⟨by omega, by omega, hl, hc, fun _ h => h, fun h => (by cases h), fun _ => ⟨rfl, fun u hu => absurd hu (by simp)⟩⟩
  obtain ⟨z, hz, gone, left', rfl, hq⟩ := key
  exact ⟨gone, left', hz, hq⟩
/-- Again and again: what is left is the k-core. -/
theorem F12_is {tl : List (List Int)} {n : Nat} (hL : Lok n tl) {k : Int} {r0 : List Int} {left : List Bool} (hl : left.length = n) (hc : Covers n (nbl tl) k left) :
    ∃ left', F12 tl k true r0 left = some ((tl, k, ()), (r0, left', ())) ∧ left'.length = n ∧ (∀ v, left'.getD v false = true ↔ InCore n (nbl tl) k v) := by
  have key := F12_inv (to0 := tl) (k7 := k) (r0 := r0) (fun gone r => r.length = n ∧ Covers n (nbl tl) k r ∧ (gone = false → ∀ v, v < n → r.getD v false = true → k ≤ inSet (lf r) (nbl tl v))) (fun gone r => many r + (if gone = true then 1 else 0))
    (fun z => ∃ left', z = ((tl, k, ()), (r0, left', ())) ∧ left'.length = n ∧ (∀ v, left'.getD v false = true ↔ InCore n (nbl tl) k v)) (fun gone r hi => by
      obtain ⟨h1, h2, h3⟩ := hi
      unfold R12
      refine led_if (fun c => ?_) (fun c => ?_)
      · obtain ⟨g, l', e, g1, g2, g3, g4, g5⟩ := F15_is hL (r0 := r0) h1 h2
        simp only [e]
        refine led_k ⟨_, _, rfl, ⟨g1, g2, fun hg => ?_⟩, ?_⟩
        · obtain ⟨rfl, g6⟩ := g5 hg
          exact g6
        · rw [if_pos c]
          cases g with
          | true => have := g4 rfl; simp; omega
          | false => rw [(g5 rfl).1]; simp
      · have hg : gone = false := by simpa using c
        refine led_x ⟨r, rfl, h1, fun v => ?_⟩
        exact covers_iff h1 h2 (h3 hg) v) true left ⟨hl, hc, fun h => by cases h⟩
  obtain ⟨z, hz, left', rfl, hq⟩ := key
  exact ⟨left', hz, hq⟩
theorem F22_is {tl : List (List Int)} {n : Nat} (hL : Lok n tl) {k : Int} {r0 : List Int} {left : List Bool} (hl : left.length = n) (hr : r0.length = n) :
    ∃ some' r', F22 tl false k 0 r0 left = some ((tl, some', k, ()), (r', left, ())) ∧ r'.length = n ∧ (∀ v, v < n → r'.getD v 0 = if left.getD v false = true then k else r0.getD v 0) ∧ (some' = true → ∃ v, v < n ∧ left.getD v false = true) ∧ (some' = false → ∀ v, v < n → left.getD v false = false) := by
  have hsm := hL.small
  have hln := hL.len
  have key := F22_inv (to0 := tl) (k7 := k) (r1 := left) (fun s v r => 0 ≤ v ∧ v ≤ n ∧ r.length = n ∧ (∀ u, u < n → r.getD u 0 = if u < v.toNat ∧ left.getD u false = true then k else r0.getD u 0) ∧ (s = true → ∃ u, u < n ∧ left.getD u false = true) ∧ (s = false → ∀ u, u < v.toNat → left.getD u false = false)) (fun _ v _ => n - v.toNat)
    (fun z => ∃ some' r', z = ((tl, some', k, ()), (r', left, ())) ∧ r'.length = n ∧ (∀ v, v < n → r'.getD v 0 = if left.getD v false = true then k else r0.getD v 0) ∧ (some' = true → ∃ v, v < n ∧ left.getD v false = true) ∧ (some' = false → ∀ v, v < n → left.getD v false = false)) (fun s v r hi => by
      obtain ⟨h0, h1, h2, h3, h4, h5⟩ := hi
      unfold R22
      refine led_dif (fun hlt => ?_) (fun hge => ?_)
      · have hw : IntKind.wrap .i64 (v + 1) = v + 1 := wr (by omega) (by omega)
        have hi1 : (v + 1).toNat = v.toNat + 1 := by omega
        rw [hw]
        refine led_need h0 (led_need (by omega) (led_if (fun c => ?_) (fun c => ?_)))
        · refine led_need h0 (led_need (by omega) (led_need (by omega) ?_))
          refine led_k ⟨_, _, _, rfl, ⟨by omega, by omega, by rw [List.length_set, h2], fun u hu => ?_, fun _ => ⟨_, by omega, c⟩, fun h => by cases h⟩, by omega⟩
          rw [getD_set, hi1]
          by_cases e : v.toNat = u
          · subst e
            rw [if_pos ⟨rfl, by omega⟩, if_pos ⟨by omega, c⟩]
          · rw [if_neg (fun q => e q.1), h3 u hu]
            by_cases q : u < v.toNat ∧ left.getD u false = true
            · rw [if_pos q, if_pos ⟨by omega, q.2⟩]
            · rw [if_neg q, if_neg (fun q' => q ⟨by omega, q'.2⟩)]
        · refine led_k ⟨_, _, _, rfl, ⟨by omega, by omega, h2, fun u hu => ?_, h4, fun hs u hu => ?_⟩, by omega⟩
          · rw [h3 u hu, hi1]
            by_cases q : u < v.toNat ∧ left.getD u false = true
            · rw [if_pos q, if_pos ⟨by omega, q.2⟩]
            · rw [if_neg q, if_neg (fun q' => q ⟨by
                rcases Nat.lt_or_ge u v.toNat with k | k
                · exact k
                · obtain rfl : u = v.toNat := by omega
                  exact absurd q'.2 c, q'.2⟩)]
          · by_cases e : u = v.toNat
            · subst e; simpa using c
            · exact h5 hs u (by omega)
      · refine led_x ⟨_, _, rfl, h2, fun u hu => ?_, h4, fun hs u hu => h5 hs u (by omega)⟩
        rw [h3 u hu]
        by_cases q : left.getD u false = true
        · rw [if_pos ⟨by omega, q⟩, if_pos q]
        · rw [if_neg (fun q' => q q'.2), if_neg q]) false 0 r0 ⟨by omega, by omega, hr, fun u hu => (by rw [if_neg (by simp)]), fun h => (by cases h), fun _ u hu => absurd hu (by simp)⟩
  obtain ⟨z, hz, s, r', rfl, hq⟩ := key
  exact ⟨s, r', hz, hq⟩
/-- Numbers of those that k has not yet told apart. -/
structure Upto (n : Nat) (nbs : Nat → List Int) (k : Int) (c : List Int) : Prop where
  len : c.length = n
  rng : ∀ v, v < n → 0 ≤ c.getD v 0 ∧ c.getD v 0 < k
  isin : ∀ v, v < n → InCore n nbs (c.getD v 0) v
  most : ∀ v, v < n → c.getD v 0 + 1 < k → ¬ InCore n nbs (c.getD v 0 + 1) v
theorem F9_is {tl : List (List Int)} {n : Nat} (hL : Lok n tl) {s : Bool} {r0 : List Int} {left : List Bool} (hl : left.length = n) (hU : Upto n (nbl tl) 1 r0) (hc : ∀ v, left.getD v false = true ↔ InCore n (nbl tl) 0 v) (hs : s = false → n = 0) :
    ∃ c, F9 tl s 1 r0 left = some ((), (c, ())) ∧ IsCores n (nbl tl) c := by
  have hsm := hL.small
  have hln := hL.len
  have key := F9_inv (to0 := tl) (fun s k r left => 1 ≤ k ∧ k ≤ 1048578 ∧ left.length = n ∧ Upto n (nbl tl) k r ∧ (∀ v, left.getD v false = true ↔ InCore n (nbl tl) (k - 1) v) ∧ (s = false → ∀ v, v < n → ¬ InCore n (nbl tl) (k - 1) v ∨ n = 0) ∧ (s = true → 1 < k → ∃ v, v < n ∧ InCore n (nbl tl) (k - 1) v)) (fun _ k _ _ => 1048578 - k.toNat)
    (fun z => ∃ c, z = ((), (c, ())) ∧ IsCores n (nbl tl) c) (fun s k r left hi => by
      obtain ⟨h0, h1, h2, h3, h4, h5, h6⟩ := hi
      unfold R9
      refine led_if (fun c => ?_) (fun c => ?_)
      · have hk : k ≤ 1048577 := by
          rcases Int.lt_or_le 1 k with q | q
          · obtain ⟨v, hv, hin⟩ := h6 c q
            have := hin.lt.2
            have := hL.rows v
            omega
          · omega
        have hcov : Covers n (nbl tl) k left := fun v hv => (h4 v).2 (hv.mono (by omega))
        obtain ⟨l1, e1, g1, g2⟩ := F12_is hL (r0 := r) h2 hcov
        obtain ⟨s', r', e2, f1, f2, f3, f4⟩ := F22_is hL (k := k) (r0 := r) g1 h3.len
        have hw : IntKind.wrap .i64 (k + 1) = k + 1 := wr (by omega) (by omega)
        simp only [e1, e2]
        rw [hw]
        have hke : k + 1 - 1 = k := by omega
        refine led_k ⟨_, _, _, _, rfl, ⟨by omega, by omega, g1, ⟨f1, fun v hv => ?_, fun v hv => ?_, fun v hv hlt => ?_⟩, fun v => by rw [hke]; exact g2 v, fun hs v hv => .inl ?_, fun hs _ => ?_⟩, by omega⟩
        · rw [f2 v hv]
          have := h3.rng v hv
          split <;> omega
        · rw [f2 v hv]
          split
          · rename_i q; exact (g2 v).1 q
          · exact h3.isin v hv
        · rw [f2 v hv] at hlt ⊢
          split
          · rename_i q
            rw [if_pos q] at hlt
            omega
          · rename_i q
            rw [if_neg q] at hlt
            by_cases e : r.getD v 0 + 1 < k
            · exact h3.most v hv e
            · have : r.getD v 0 + 1 = k := by have := h3.rng v hv; omega
              rw [this]
              exact fun hin => q ((g2 v).2 hin)
        · rw [hke]
          intro hin
          have := f4 hs v hv
          rw [(g2 v).2 hin] at this
          cases this
        · obtain ⟨v, hv, hv2⟩ := f3 hs
          rw [hke]
          exact ⟨v, hv, (g2 v).1 hv2⟩
      · refine led_x ⟨_, rfl, h3.len, fun v hv => (h3.rng v hv).1, h3.isin, fun v hv hin => ?_⟩
        have hs : s = false := by simpa using c
        have hn : ¬ InCore n (nbl tl) (k - 1) v := (h5 hs v hv).elim id (fun e => by omega)
        have hr := h3.rng v hv
        by_cases e : r.getD v 0 + 1 < k
        · exact h3.most v hv e hin
        · exact hn (hin.mono (by omega))) s 1 r0 left ⟨by omega, by omega, hl, hU, fun v => by simpa using hc v, fun h v hv => .inr (hs h), fun _ h => by omega⟩
  obtain ⟨z, hz, c, rfl, hq⟩ := key
  exact ⟨c, hz, hq⟩
theorem is {tl : List (List Int)} {n : Nat} (hL : Lok n tl) : pre tl = true ∧ ∃ c, fn tl = (c, ()) ∧ IsCores n (nbl tl) c := by
  have hsm := hL.small
  have hln := hL.len
  have hrep : ∀ v, (List.replicate n true).getD v false = true ↔ InCore n (nbl tl) 0 v := fun v => by
    rw [List.getD_eq_getElem?_getD, List.getElem?_replicate]
    by_cases h : v < n
    · simp [h, inCore_zero h]
    · simp [h]
      exact fun k => h k.lt.1
  obtain ⟨c, e, hc⟩ := F9_is hL (s := decide ((n : Int) > 0)) (r0 := List.replicate n (0 : Int)) (left := List.replicate n true) (by simp)
    ⟨by simp, fun v hv => by simp [List.getD_eq_getElem?_getD, List.getElem?_replicate, hv], fun v hv => by
      have : (List.replicate n (0 : Int)).getD v 0 = 0 := by simp [List.getD_eq_getElem?_getD, List.getElem?_replicate, hv]
      rw [this]; exact inCore_zero hv, fun v hv h => by
      have : (List.replicate n (0 : Int)).getD v 0 = 0 := by simp [List.getD_eq_getElem?_getD, List.getElem?_replicate, hv]
      rw [this] at h; omega⟩ hrep (fun h => by have := of_decide_eq_false h; omega)
  have := is_fn tl (x := (c, ())) (by
    unfold run'
    rw [if_pos rfl, Int.toNat_natCast, if_pos (by omega), if_pos rfl, if_pos (by omega)]
    have h5 := F5_is (tl := tl) (b := decide ((tl.length : Int) > 0)) (r0 := List.replicate tl.length (0 : Int)) (by omega)
    simp only [h5]
    rw [hln]
    simp only [e])
  exact ⟨this.1, c, this.2, hc⟩
end Cores7
end Go.Proofs.Ythbojpaghbbnnaa.Z
namespace Go.Proofs.Ythbojpaghbbnnaa.Z
open Go Go.RowKit Hx
set_option linter.unusedVariables false
set_option linter.unusedSimpArgs false
namespace HindexCores
theorem F14_is {n0 : Int} {g : Option Gr} {ls : List (List Int)} {want : List Int} {rd : Int} {r0 : List Int} (hl : r0.length ≤ 1048576) : F14 n0 g ls want rd 0 r0 = some ((n0, g, ls, want, rd, ()), ()) := by
  have key := F14_inv (n0 := n0) (g6 := g) (lists7 := ls) (want8 := want) (round9 := rd) (fun i r => 0 ≤ i ∧ i ≤ r.length ∧ r.length = r0.length) (fun i r => r.length - i.toNat)
    (fun z => z = ((n0, g, ls, want, rd, ()), ())) (fun i r hi => by
      obtain ⟨h0, h1, h2⟩ := hi
      unfold R14
      refine led_dif (fun q1 => ?_) (fun q1 => led_x rfl)
      have hw : IntKind.wrap .i64 (i + 1) = i + 1 := wr (by omega) (by omega)
      rw [hw]
      exact led_need h0 (led_need q1 (led_need (by omega) (led_k ⟨_, _, rfl, ⟨by omega, by rw [List.length_set]; omega, by rw [List.length_set]; exact h2⟩, by rw [List.length_set]; omega⟩)))) 0 r0 ⟨by omega, by omega, rfl⟩
  obtain ⟨z, hz, hq⟩ := key
  rw [hz, hq]
theorem F7_is {n0 : Int} {g : Option Gr} {ls : List (List Int)} {c : List Int} (h1 : CoresH.pre g = true) (h2 : CoresH.fn g = (c, ())) (hl : c.length ≤ 1048576) : F7 n0 g ls c 0 = some (Sum.inr ((n0, g, ls, ()), ())) := by
  have key := F7_inv (n0 := n0) (g6 := g) (lists7 := ls) (want8 := c) (fun r => 0 ≤ r ∧ r ≤ 2) (fun r => 2 - r.toNat)
    (fun z => z = Sum.inr ((n0, g, ls, ()), ())) (fun r hi => by
      obtain ⟨q0, q2⟩ := hi
      unfold R7
      refine led_dif (fun q1 => ?_) (fun q1 => led_x rfl)
      have hw : IntKind.wrap .i64 (r + 1) = r + 1 := wr (by omega) (by omega)
      rw [h2]
      refine led_need h1 (led_need rfl (led_no (by rw [(sameIs _ _).2]; simp) ?_))
      simp only [F14_is hl, hw]
      exact led_k ⟨_, rfl, ⟨by omega, by omega⟩, by omega⟩) 0 ⟨by omega, by omega⟩
  obtain ⟨z, hz, hq⟩ := key
  rw [hz, hq]
theorem F18_is {n : Int} {G : Gr} (hG : G.Ok) (hn : (G.n : Int) = n) (hs : G.n ≤ 1048576) : F18 n (some G) (listsOf G) 0 = some (Sum.inr ((), ())) := by
  have hL := lok_listsOf hG hs
  have hln := hL.len
  have key := F18_inv (n0 := n) (g6 := some G) (lists7 := listsOf G) (fun v => 0 ≤ v ∧ v ≤ n) (fun v => n.toNat - v.toNat)
    (fun z => z = Sum.inr ((), ())) (fun v hi => by
      obtain ⟨q0, q2⟩ := hi
      unfold R18
      refine led_dif (fun q1 => ?_) (fun q1 => led_x rfl)
      have hw : IntKind.wrap .i64 (v + 1) = v + 1 := wr (by omega) (by omega)
      obtain ⟨k, rfl⟩ := Int.eq_ofNat_of_zero_le q0
      have e : List.getD (listsOf G) (Int.toNat (k : Int)) [] = nbG G k := congrFun (nbl_listsOf hG) k
      rw [hw, nbFnG, e]
      exact led_need q0 (led_need (by omega) (led_need rfl (led_need rfl (led_no (by rw [(sameIs _ _).2]; simp) (led_k ⟨_, rfl, ⟨by omega, by omega⟩, by omega⟩)))))) 0 ⟨by omega, by omega⟩
  obtain ⟨z, hz, hq⟩ := key
  rw [hz, hq]
theorem holds (n : Int) (l : List (Int × Int)) (w0 : (Lit.int .i64 n).wf = true) (w1 : l.length ≤ maxLen ∧ ∀ x ∈ l, (Lit.int .i64 x.1).wf = true ∧ (Lit.int .i64 x.2).wf = true) : pre n l = true ∧ fn n l = (true, ()) := by
  refine is_fn _ _ ?_
  unfold run'
  have hmp : Made7.pre n l = true := rfl
  by_cases hm : madeOk n l = true
  · have hG := madeG_ok hm
    obtain ⟨⟨h0, h1⟩, h2⟩ := madeOk_iff.1 hm
    have hGn : (madeG n l).n ≤ 1048576 := by rw [madeG_n]; omega
    have hn : ((madeG n l).n : Int) = n := by rw [madeG_n]; omega
    have hn0 : Option.isNone (some (madeG n l)) = false := rfl
    obtain ⟨c1, c, c2, c3⟩ := CoresH.is hG hGn
    obtain ⟨d1, d, d2, d3⟩ := Cores7.is (lok_listsOf hG hGn)
    rw [nbl_listsOf hG] at d3
    obtain rfl := IsCores.uniq c3 d3
    have hcl : c.length ≤ 1048576 := by have := c3.len; omega
    simp only [first7.is.1, first7.is.2, hmp, Made7.yes hm, hn0, d1, d2, F7_is c1 c2 hcl, F18_is hG hn hGn, if_true, if_false, Bool.not_true, Bool.false_eq_true, Bool.true_eq_false]
  · simp [first7.is.1, first7.is.2, hmp, Made7.no hm]
end HindexCores
end Go.Proofs.Ythbojpaghbbnnaa.Z
