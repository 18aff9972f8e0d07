/- Chapter 7 in plain words: cores, by what a core is; what a run leaves is the cores. No program, no memory; no condition. -/
import Derived.Test.YthbojpaghbbnnaaG
namespace Go.Proofs.Ythbojpaghbbnnaa.Hx
set_option linter.unusedVariables false
set_option linter.unusedSimpArgs false
def over (l : List Int) (h : Int) : Int := (l.countP (fun x => decide (x ≥ h)) : Nat)
def top (l : List Int) (most : Int) : Nat → Nat
  | 0 => 0
  | h + 1 => if ((h + 1 : Nat) : Int) ≤ most ∧ over l ((h + 1 : Nat) : Int) ≥ ((h + 1 : Nat) : Int) then h + 1 else top l most h
def hOf (l : List Int) (most : Int) : Int := (top l most l.length : Nat)
theorem over_nonneg (l : List Int) (h : Int) : 0 ≤ over l h := Int.natCast_nonneg _
theorem over_le (l : List Int) (h : Int) : over l h ≤ l.length := by
  unfold over
  have := List.countP_le_length (p := fun x : Int => decide (x ≥ h)) (l := l)
  omega
theorem over_mono {l : List Int} {h h' : Int} (hh : h ≤ h') : over l h' ≤ over l h := by
  unfold over
  have := List.countP_mono_left (p := fun x : Int => decide (x ≥ h')) (q := fun x : Int => decide (x ≥ h)) (l := l) (fun x _ hx => by
    simp only [decide_eq_true_eq] at hx ⊢
    omega)
  omega
theorem over_cons (x : Int) (l : List Int) (h : Int) : over (x :: l) h = over l h + if x ≥ h then 1 else 0 := by
  unfold over
  rw [List.countP_cons]
  by_cases k : x ≥ h <;> simp [k]
theorem over_append (a b : List Int) (h : Int) : over (a ++ b) h = over a h + over b h := by
  unfold over
  rw [List.countP_append]
  omega
structure IsH (l : List Int) (m h : Int) : Prop where
  nonneg : 0 ≤ h
  most : h = 0 ∨ h ≤ m
  holds : h ≤ over l h
  best : ∀ h', 0 < h' → h' ≤ m → h' ≤ over l h' → h' ≤ h
theorem IsH.uniq {l : List Int} {m a b : Int} (h : IsH l m a) (k : IsH l m b) : a = b := by
  have h1 : a ≤ b := by
    rcases Int.lt_or_le 0 a with q | q
    · exact k.best a q (h.most.elim (fun e => by omega) id) h.holds
    · have := k.nonneg; omega
  have h2 : b ≤ a := by
    rcases Int.lt_or_le 0 b with q | q
    · exact h.best b q (k.most.elim (fun e => by omega) id) k.holds
    · have := h.nonneg; omega
  omega
theorem top_is (l : List Int) (m : Int) : ∀ k : Nat, (top l m k : Int) ≤ k ∧ ((top l m k : Int) = 0 ∨ (top l m k : Int) ≤ m) ∧ (top l m k : Int) ≤ over l (top l m k) ∧ ∀ h' : Int, 0 < h' → h' ≤ k → h' ≤ m → h' ≤ over l h' → h' ≤ top l m k
  | 0 => ⟨by simp [top], .inl rfl, over_nonneg _ _, fun h' a b => by omega⟩
  | k + 1 => by
    obtain ⟨h1, h2, h3, h4⟩ := top_is l m k
    unfold top
    split
    · rename_i h
      exact ⟨Int.le_refl _, .inr h.1, h.2, fun h' _ b _ _ => b⟩
    · rename_i h
      refine ⟨by omega, h2, h3, fun h' a b c d => ?_⟩
      by_cases e : h' = ((k + 1 : Nat) : Int)
      · subst e
        exact absurd ⟨c, d⟩ h
      · exact h4 h' a (by omega) c d
theorem hOf_is (l : List Int) (m : Int) : IsH l m (hOf l m) := by
  obtain ⟨h1, h2, h3, h4⟩ := top_is l m l.length
  refine ⟨Int.natCast_nonneg _, h2, h3, fun h' a b c => h4 h' a ?_ b c⟩
  have := over_le l h'
  omega
theorem hOf_le {l : List Int} {m : Int} (hm : 0 ≤ m) : hOf l m ≤ m := (hOf_is l m).most.elim (fun e => by omega) id
theorem hOf_len (l : List Int) (m : Int) : hOf l m ≤ l.length := (top_is l m l.length).1
theorem hOf_nonneg (l : List Int) (m : Int) : 0 ≤ hOf l m := (hOf_is l m).nonneg
theorem hOf_mono {l l' : List Int} {m m' : Int} (hl : ∀ h, 0 < h → over l h ≤ over l' h) (hm : m ≤ m') : hOf l m ≤ hOf l' m' := by
  have h := hOf_is l m
  rcases Int.lt_or_le 0 (hOf l m) with q | q
  · refine (hOf_is l' m').best _ q ?_ ?_
    · rcases h.most with e | e <;> omega
    · have := h.holds
      have := hl _ q
      omega
  · have := hOf_nonneg l' m'
    omega
/-- h stands iff so many are above it. -/
theorem hOf_eq_iff {l : List Int} {m : Int} (hm : 0 ≤ m) : hOf l m = m ↔ m ≤ over l m := by
  constructor
  · intro e
    have := (hOf_is l m).holds
    rwa [e] at this
  · intro h
    refine (hOf_is l m).uniq ⟨hm, .inr (Int.le_refl _), h, fun _ _ b _ => b⟩
/-! ### Sweeps -/
abbrev St := List Int × Int × Bool
def vals (nb : List Int) (est : List Int) : List Int := nb.map (fun u => est.getD u.toNat 0)
def aheadOf (nb : List Int) (v : Nat) (est : List Int) (h old : Int) : Bool := nb.any (fun u => decide (u < (v : Int)) && (decide (est.getD u.toNat 0 > h) && decide (est.getD u.toNat 0 ≤ old)))
def swStep (nbs : Nat → List Int) (s : St) (v : Nat) : St :=
  if hOf (vals (nbs v) s.1) (s.1.getD v 0) ≥ s.1.getD v 0 then s
  else (s.1.set v (hOf (vals (nbs v) s.1) (s.1.getD v 0)), s.2.1 + 1, s.2.2 || aheadOf (nbs v) v (s.1.set v (hOf (vals (nbs v) s.1) (s.1.getD v 0))) (hOf (vals (nbs v) s.1) (s.1.getD v 0)) (s.1.getD v 0))
def sweepTo (nbs : Nat → List Int) (est : List Int) (k : Nat) : St := (List.range k).foldl (swStep nbs) (est, 0, false)
theorem sweepTo_succ (nbs : Nat → List Int) (est : List Int) (k : Nat) : sweepTo nbs est (k + 1) = swStep nbs (sweepTo nbs est k) k := by
  simp [sweepTo, List.range_succ, List.foldl_append]
theorem getD_set (l : List Int) (i j : Nat) (x d : Int) : (l.set i x).getD j d = if i = j ∧ i < l.length then x else l.getD j d := by
  simp only [List.getD_eq_getElem?_getD, List.getElem?_set]
  by_cases h : i = j
  · subst h
    by_cases k : i < l.length
    · simp [k]
    · simp [k]
  · simp [h]
theorem step_len (nbs : Nat → List Int) (s : St) (v : Nat) : (swStep nbs s v).1.length = s.1.length := by
  unfold swStep; split <;> simp
theorem sweepTo_len (nbs : Nat → List Int) (est : List Int) (k : Nat) : (sweepTo nbs est k).1.length = est.length := by
  induction k with
  | zero => rfl
  | succ k ih => rw [sweepTo_succ, step_len, ih]
/-- A step turns v alone, and lowers it. -/
theorem step_getD (nbs : Nat → List Int) (s : St) (v j : Nat) (hv : v < s.1.length) : (swStep nbs s v).1.getD j 0 = if v = j then min (s.1.getD v 0) (hOf (vals (nbs v) s.1) (s.1.getD v 0)) else s.1.getD j 0 := by
  unfold swStep
  split
  · split
    · rename_i h e; subst e; omega
    · rfl
  · rename_i h
    simp only [getD_set]
    by_cases e : v = j
    · subst e
      rw [if_pos ⟨rfl, hv⟩, if_pos rfl]; omega
    · rw [if_neg (fun k => e k.1), if_neg e]
theorem step_le (nbs : Nat → List Int) (s : St) (v j : Nat) (hv : v < s.1.length) : (swStep nbs s v).1.getD j 0 ≤ s.1.getD j 0 := by
  rw [step_getD nbs s v j hv]
  split
  · rename_i e; subst e; omega
  · exact Int.le_refl _
theorem step_nonneg {nbs : Nat → List Int} {s : St} {v : Nat} (hv : v < s.1.length) (h : ∀ j, 0 ≤ s.1.getD j 0) : ∀ j, 0 ≤ (swStep nbs s v).1.getD j 0 := fun j => by
  rw [step_getD nbs s v j hv]
  have := hOf_nonneg (vals (nbs v) s.1) (s.1.getD v 0)
  have := h v
  have := h j
  split <;> omega
theorem sweepTo_le (nbs : Nat → List Int) (est : List Int) (k : Nat) (hk : k ≤ est.length) (j : Nat) : (sweepTo nbs est k).1.getD j 0 ≤ est.getD j 0 := by
  induction k with
  | zero => exact Int.le_refl _
  | succ k ih =>
    rw [sweepTo_succ]
    exact Int.le_trans (step_le nbs _ k j (by rw [sweepTo_len]; omega)) (ih (by omega))
theorem sweepTo_nonneg {nbs : Nat → List Int} {est : List Int} (h : ∀ j, 0 ≤ est.getD j 0) (k : Nat) (hk : k ≤ est.length) (j : Nat) : 0 ≤ (sweepTo nbs est k).1.getD j 0 := by
  induction k generalizing j with
  | zero => exact h j
  | succ k ih =>
    rw [sweepTo_succ]
    exact step_nonneg (by rw [sweepTo_len]; omega) (fun j => ih (by omega) j) j
/-- Neighbours: among n vertices, each another one's. -/
structure Nbs (n : Nat) (nbs : Nat → List Int) : Prop where
  rng : ∀ v, v < n → ∀ u ∈ nbs v, 0 ≤ u ∧ u < n
  irr : ∀ v, v < n → (v : Int) ∉ nbs v
  symm : ∀ u v : Nat, u < n → v < n → (u : Int) ∈ nbs v → (v : Int) ∈ nbs u
  nodup : ∀ v, v < n → (nbs v).Nodup
/-- As many neighbours of v have its number or more as its number says. -/
def Stable (nbs : Nat → List Int) (est : List Int) (v : Nat) : Prop := est.getD v 0 ≤ over (vals (nbs v) est) (est.getD v 0)
theorem vals_set_other {n : Nat} {nbs : Nat → List Int} (hN : Nbs n nbs) {est : List Int} {v : Nat} (hv : v < n) (x : Int) : vals (nbs v) (est.set v x) = vals (nbs v) est := by
  refine List.map_congr_left (fun u hu => ?_)
  rw [getD_set, if_neg]
  rintro ⟨e, _⟩
  have := hN.rng v hv u hu
  have : u = (v : Int) := by omega
  subst this
  exact hN.irr v hv hu
theorem over_vals_mono {nb : List Int} {a b : List Int} (h : ∀ u ∈ nb, a.getD u.toNat 0 ≤ b.getD u.toNat 0) (k : Int) : over (vals nb a) k ≤ over (vals nb b) k := by
  induction nb with
  | nil => exact Int.le_refl _
  | cons u nb ih =>
    have h1 := h u (by simp)
    have h2 := ih (fun x hx => h x (by simp [hx]))
    unfold vals at *
    rw [List.map_cons, List.map_cons, over_cons, over_cons]
    split <;> split <;> omega
theorem over_vals_same {nb : List Int} {a b : List Int} {k : Int} (h : ∀ u ∈ nb, (a.getD u.toNat 0 ≥ k ↔ b.getD u.toNat 0 ≥ k)) : over (vals nb a) k = over (vals nb b) k := by
  induction nb with
  | nil => rfl
  | cons u nb ih =>
    have h1 := h u (by simp)
    have h2 := ih (fun x hx => h x (by simp [hx]))
    unfold vals at *
    rw [List.map_cons, List.map_cons, over_cons, over_cons, h2]
    by_cases q : a.getD u.toNat 0 ≥ k
    · rw [if_pos q, if_pos (h1.1 q)]
    · rw [if_neg q, if_neg (fun e => q (h1.2 e))]
/-- Behind each step: all that were looked at are stable, or a number has fallen past one ahead. -/
theorem step_stable {n : Nat} {nbs : Nat → List Int} (hN : Nbs n nbs) {s : St} {v : Nat} (hv : v < n) (hl : s.1.length = n) (h0 : ∀ j, 0 ≤ s.1.getD j 0) (h : s.2.2 = false → ∀ u, u < v → Stable nbs s.1 u) :
    (swStep nbs s v).2.2 = false → ∀ u, u < v + 1 → Stable nbs (swStep nbs s v).1 u := by
  have hH := hOf_is (vals (nbs v) s.1) (s.1.getD v 0)
  have hle := hOf_le (l := vals (nbs v) s.1) (h0 v)
  unfold swStep
  split
  · rename_i hge
    intro hp u hu
    by_cases e : u = v
    · subst e
      have e2 : hOf (vals (nbs u) s.1) (s.1.getD u 0) = s.1.getD u 0 := by omega
      exact (hOf_eq_iff (h0 u)).1 e2
    · exact h hp u (by omega)
  · rename_i hlt
    intro hp u hu
    simp only [Bool.or_eq_false_iff] at hp
    obtain ⟨hp1, hp2⟩ := hp
    generalize hh : hOf (vals (nbs v) s.1) (s.1.getD v 0) = x at *
    by_cases e : u = v
    · subst e
      unfold Stable
      rw [vals_set_other hN hv, getD_set, if_pos ⟨rfl, by omega⟩]
      exact hH.holds
    · have hu' : u < v := by omega
      have hs := h hp1 u hu'
      unfold Stable at *
      have e1 : (s.1.set v x).getD u 0 = s.1.getD u 0 := by rw [getD_set, if_neg (fun k => e k.1.symm)]
      rw [e1]
      refine Int.le_trans hs (Int.le_of_eq (over_vals_same (fun w hw => ?_)))
      rw [getD_set]
      by_cases q : v = w.toNat ∧ v < s.1.length
      · rw [if_pos q]
        obtain ⟨q1, _⟩ := q
        have hw' := hN.rng u (by omega) w hw
        have ew : w = (v : Int) := by omega
        subst ew
        have hm := hN.symm v u hv (by omega) hw
        have := List.any_eq_false.1 hp2 (u : Int) hm
        simp only [Int.toNat_natCast, e1, Bool.and_eq_true, decide_eq_true_eq] at this
        rw [Int.toNat_natCast]
        have a1 : (u : Int) < (v : Int) := by omega
        omega
      · rw [if_neg q]
theorem sweepTo_stable {n : Nat} {nbs : Nat → List Int} (hN : Nbs n nbs) {est : List Int} (hl : est.length = n) (h0 : ∀ j, 0 ≤ est.getD j 0) : ∀ k, k ≤ n → (sweepTo nbs est k).2.2 = false → ∀ u, u < k → Stable nbs (sweepTo nbs est k).1 u
  | 0, _, _, u, hu => absurd hu (Nat.not_lt_zero u)
  | k + 1, hk, hp, u, hu => by
    rw [sweepTo_succ] at hp ⊢
    exact step_stable hN (by omega) (by rw [sweepTo_len, hl]) (fun j => sweepTo_nonneg h0 k (by omega) j) (sweepTo_stable hN hl h0 k (by omega)) hp u hu
/-- What holds of itself is not gone below. -/
def Holds (n : Nat) (nbs : Nat → List Int) (q : List Int) : Prop := ∀ v, v < n → q.getD v 0 ≤ over (vals (nbs v) q) (q.getD v 0)
theorem step_above {n : Nat} {nbs : Nat → List Int} (hN : Nbs n nbs) {q : List Int} (hq : Holds n nbs q) {s : St} {v : Nat} (hv : v < n) (hl : s.1.length = n) (h : ∀ j, j < n → q.getD j 0 ≤ s.1.getD j 0) : ∀ j, j < n → q.getD j 0 ≤ (swStep nbs s v).1.getD j 0 := fun j hj => by
  rw [step_getD nbs s v j (by omega)]
  split
  · rename_i e
    subst e
    have h1 := h v hv
    refine Int.le_min.2 ⟨h1, ?_⟩
    rcases Int.lt_or_le 0 (q.getD v 0) with k | k
    · refine (hOf_is _ _).best _ k h1 (Int.le_trans (hq v hv) (over_vals_mono (fun u hu => ?_) _))
      have := hN.rng v hv u hu
      exact h u.toNat (by omega)
    · have := hOf_nonneg (vals (nbs v) s.1) (s.1.getD v 0)
      omega
  · exact h j hj
theorem sweepTo_above {n : Nat} {nbs : Nat → List Int} (hN : Nbs n nbs) {q est : List Int} (hq : Holds n nbs q) (hl : est.length = n) (h : ∀ j, j < n → q.getD j 0 ≤ est.getD j 0) : ∀ k, k ≤ n → ∀ j, j < n → q.getD j 0 ≤ (sweepTo nbs est k).1.getD j 0
  | 0, _ => h
  | k + 1, hk => by
    rw [sweepTo_succ]
    exact step_above hN hq (by omega) (by rw [sweepTo_len, hl]) (sweepTo_above hN hq hl h k (by omega))
/-- A sweep of what is stable changes nothing. -/
theorem sweepTo_fix {nbs : Nat → List Int} {est : List Int} (h0 : ∀ j, 0 ≤ est.getD j 0) : ∀ k, (∀ v, v < k → Stable nbs est v) → sweepTo nbs est k = (est, 0, false)
  | 0, _ => rfl
  | k + 1, h => by
    rw [sweepTo_succ, sweepTo_fix h0 k (fun v hv => h v (by omega))]
    unfold swStep
    rw [if_pos]
    have := (hOf_eq_iff (h0 k)).2 (h k (by omega))
    show hOf (vals (nbs k) est) (est.getD k 0) ≥ est.getD k 0
    omega
/-! ### Sums, falls -/
def sum (l : List Int) : Int := l.foldr (· + ·) 0
theorem sum_set : ∀ (l : List Int) (v : Nat) (x : Int), v < l.length → sum (l.set v x) = sum l - l.getD v 0 + x
  | [], _, _, h => absurd h (by simp)
  | a :: l, 0, x, _ => by simp [sum]; omega
  | a :: l, v + 1, x, h => by
    have := sum_set l v x (by simpa using h)
    simp only [sum, List.set_cons_succ, List.foldr_cons, List.getD_cons_succ] at *
    omega
theorem sum_nonneg : ∀ {l : List Int}, (∀ x ∈ l, 0 ≤ x) → 0 ≤ sum l
  | [], _ => Int.le_refl _
  | a :: l, h => by
    have h1 := sum_nonneg (l := l) (fun x hx => h x (by simp [hx]))
    have h2 := h a (by simp)
    simp only [sum, List.foldr_cons] at *
    omega
theorem step_falls (nbs : Nat → List Int) (s : St) (v : Nat) (hv : v < s.1.length) : s.2.1 ≤ (swStep nbs s v).2.1 ∧ (swStep nbs s v).2.1 ≤ s.2.1 + 1 ∧ (swStep nbs s v).2.1 - s.2.1 ≤ sum s.1 - sum (swStep nbs s v).1 ∧ (s.2.2 = false → (swStep nbs s v).2.2 = true → s.2.1 < (swStep nbs s v).2.1) ∧ ((swStep nbs s v).2.1 = s.2.1 → swStep nbs s v = s) := by
  unfold swStep
  split
  · refine ⟨Int.le_refl _, by omega, by omega, fun h k => ?_, fun _ => rfl⟩
    rw [h] at k; cases k
  · rename_i h
    refine ⟨by simp only; omega, Int.le_refl _, ?_, fun _ _ => by simp only; omega, fun e => by simp only at e; omega⟩
    simp only
    rw [sum_set _ _ _ hv]
    omega
theorem sweepTo_falls (nbs : Nat → List Int) (est : List Int) (k : Nat) (hk : k ≤ est.length) : 0 ≤ (sweepTo nbs est k).2.1 ∧ (sweepTo nbs est k).2.1 ≤ k ∧ (sweepTo nbs est k).2.1 ≤ sum est - sum (sweepTo nbs est k).1 ∧ ((sweepTo nbs est k).2.2 = true → 0 < (sweepTo nbs est k).2.1) ∧ ((sweepTo nbs est k).2.1 = 0 → sweepTo nbs est k = (est, 0, false)) := by
  induction k with
  | zero => exact ⟨Int.le_refl _, Int.le_refl _, by show (0 : Int) ≤ _ - _; simp [sweepTo], fun h => (by cases h), fun _ => rfl⟩
  | succ k ih =>
    obtain ⟨h1, h2, h3, h4, h6⟩ := ih (by omega)
    obtain ⟨g1, g2, g3, g4, g6⟩ := step_falls nbs (sweepTo nbs est k) k (by rw [sweepTo_len]; omega)
    rw [← sweepTo_succ] at g1 g2 g3 g4 g6
    refine ⟨by omega, by omega, by omega, fun h => ?_, fun h => ?_⟩
    · cases hb : (sweepTo nbs est k).2.2 with
      | false => have := g4 hb h; omega
      | true => have := h4 hb; omega
    · rw [g6 (by omega), h6 (by omega)]
/-! ### Runs -/
inductive Runs (nbs : Nat → List Int) (n : Nat) : List Int → List Int → List Int → Prop
  | stop {est r : List Int} {k : Int} : sweepTo nbs est n = (r, k, false) → Runs nbs n est r [k]
  | more {est e r : List Int} {k : Int} {fs : List Int} : sweepTo nbs est n = (e, k, true) → Runs nbs n e r fs → Runs nbs n est r (k :: fs)
theorem Runs.uniq {nbs : Nat → List Int} {n : Nat} {est r fs r' fs' : List Int} (h : Runs nbs n est r fs) (k : Runs nbs n est r' fs') : r = r' ∧ fs = fs' := by
  induction h generalizing r' fs' with
  | stop h =>
    cases k with
    | stop k => rw [h] at k; injection k with k1 k2; injection k2 with k2 k3; exact ⟨k1, by rw [k2]⟩
    | more k _ => rw [h] at k; injection k with k1 k2; injection k2 with k2 k3; cases k3
  | more h _ ih =>
    cases k with
    | stop k => rw [h] at k; injection k with k1 k2; injection k2 with k2 k3; cases k3
    | more k k' =>
      rw [h] at k; injection k with k1 k2; injection k2 with k2 k3
      subst k1
      obtain ⟨e1, e2⟩ := ih k'
      exact ⟨e1, by rw [k2, e2]⟩
structure Left (nbs : Nat → List Int) (n : Nat) (est r fs : List Int) : Prop where
  len : r.length = n
  nonneg : ∀ j, 0 ≤ r.getD j 0
  le : ∀ j, r.getD j 0 ≤ est.getD j 0
  stable : ∀ v, v < n → Stable nbs r v
  above : ∀ q, Holds n nbs q → (∀ j, j < n → q.getD j 0 ≤ est.getD j 0) → ∀ j, j < n → q.getD j 0 ≤ r.getD j 0
  some : fs ≠ []
  falls : ∀ i, i < fs.length → 0 ≤ fs.getD i 0 ∧ fs.getD i 0 ≤ n ∧ (fs.getD i 0 = 0 → i + 1 = fs.length)
  all : sum fs ≤ sum est - sum r
  many : (fs.length : Int) ≤ sum est - sum r + 1
theorem Runs.left {nbs : Nat → List Int} {n : Nat} (hN : Nbs n nbs) {est r fs : List Int} (h : Runs nbs n est r fs) (hl : est.length = n) (h0 : ∀ j, 0 ≤ est.getD j 0) : Left nbs n est r fs := by
  induction h with
  | @stop est r k h =>
    have f := sweepTo_falls nbs est n (by omega)
    have a1 := sweepTo_len nbs est n
    have a2 := fun j => sweepTo_nonneg h0 (nbs := nbs) n (by omega) j
    have a3 := sweepTo_le nbs est n (by omega)
    have a4 := sweepTo_stable hN hl h0 n (Nat.le_refl _)
    have a5 := fun q (hq : Holds n nbs q) hh => sweepTo_above hN hq hl hh n (Nat.le_refl _)
    rw [h] at f a1 a2 a3 a4 a5
    obtain ⟨f1, f2, f3, _, _⟩ := f
    simp only at f1 f2 f3
    refine ⟨a1.trans hl, a2, a3, a4 rfl, a5, by simp, fun i hi => ?_, by simp [sum]; exact f3, by simp; omega⟩
    obtain rfl : i = 0 := by simpa using hi
    exact ⟨f1, f2, fun _ => rfl⟩
  | @more est e r k fs h _ ih =>
    have f := sweepTo_falls nbs est n (by omega)
    have a1 := sweepTo_len nbs est n
    have a2 := fun j => sweepTo_nonneg h0 (nbs := nbs) n (by omega) j
    have a3 := sweepTo_le nbs est n (by omega)
    have a5 := fun q (hq : Holds n nbs q) hh => sweepTo_above hN hq hl hh n (Nat.le_refl _)
    rw [h] at f a1 a2 a3 a5
    obtain ⟨f1, f2, f3, f4, _⟩ := f
    simp only at f1 f2 f3 f4 a1 a2 a3 a5
    have f5 := f4 trivial
    have L := ih (a1.trans hl) a2
    refine ⟨L.len, L.nonneg, fun j => Int.le_trans (L.le j) (a3 j), L.stable, fun q hq hh => L.above q hq (a5 q hq hh), by simp, fun i hi => ?_, ?_, ?_⟩
    · cases i with
      | zero => exact ⟨f1, f2, fun e => by simp at e; omega⟩
      | succ i =>
        have := L.falls i (by simpa using hi)
        refine ⟨this.1, this.2.1, fun e => ?_⟩
        have := this.2.2 e
        simp
        omega
    · have := L.all
      simp only [sum, List.foldr_cons] at *
      omega
    · have := L.many
      simp only [List.length_cons, Int.natCast_add, Int.natCast_one]
      omega
theorem sum_getD_nonneg {l : List Int} (h : ∀ j, 0 ≤ l.getD j 0) : 0 ≤ sum l := sum_nonneg (fun x hx => by
  obtain ⟨i, hi, e⟩ := List.getElem_of_mem hx
  have := h i
  rw [List.getD_eq_getElem?_getD, List.getElem?_eq_getElem hi, e] at this
  exact this)
/-- It ends. -/
theorem runs_total {nbs : Nat → List Int} {n : Nat} : ∀ (m : Nat) {est : List Int}, est.length = n → (∀ j, 0 ≤ est.getD j 0) → sum est ≤ m → ∃ r fs, Runs nbs n est r fs
  | m, est, hl, h0, hm => by
    have f := sweepTo_falls nbs est n (by omega)
    have a1 := sweepTo_len nbs est n
    have a2 := fun j => sweepTo_nonneg h0 (nbs := nbs) n (by omega) j
    rcases hs : sweepTo nbs est n with ⟨e, k, p⟩
    rw [hs] at f a1 a2
    cases p with
    | false => exact ⟨e, [k], .stop hs⟩
    | true =>
      obtain ⟨_, _, f3, f4, _⟩ := f
      simp only at f3 f4 a1 a2
      have f5 := f4 trivial
      have h1 := sum_getD_nonneg a2
      match m with
      | 0 => omega
      | m + 1 =>
        obtain ⟨r, fs, h⟩ := runs_total m (est := e) (a1.trans hl) a2 (by omega)
        exact ⟨r, k :: fs, .more hs h⟩
theorem runs_ex {nbs : Nat → List Int} {n : Nat} {est : List Int} (hl : est.length = n) (h0 : ∀ j, 0 ≤ est.getD j 0) : ∃ r fs, Runs nbs n est r fs := runs_total (sum est).toNat hl h0 (by have := sum_getD_nonneg h0; omega)
end Go.Proofs.Ythbojpaghbbnnaa.Hx
namespace Go.Proofs.Ythbojpaghbbnnaa.Hx
set_option linter.unusedVariables false
set_option linter.unusedSimpArgs false
/-- How many of a list are in a set. -/
def inSet (S : Nat → Bool) (l : List Int) : Int := (l.countP (fun u => S u.toNat) : Nat)
theorem inSet_nonneg (S : Nat → Bool) (l : List Int) : 0 ≤ inSet S l := Int.natCast_nonneg _
theorem inSet_le (S : Nat → Bool) (l : List Int) : inSet S l ≤ l.length := by
  unfold inSet
  have := List.countP_le_length (p := fun u : Int => S u.toNat) (l := l)
  omega
theorem inSet_mono {S S' : Nat → Bool} {l : List Int} (h : ∀ u ∈ l, S u.toNat = true → S' u.toNat = true) : inSet S l ≤ inSet S' l := by
  unfold inSet
  have := List.countP_mono_left (p := fun u : Int => S u.toNat) (q := fun u : Int => S' u.toNat) (l := l) h
  omega
theorem over_inSet {nb est : List Int} {k : Int} : over (vals nb est) k = inSet (fun u => decide (est.getD u 0 ≥ k)) nb := by
  induction nb with
  | nil => rfl
  | cons u nb ih =>
    unfold vals inSet at *
    rw [List.map_cons, over_cons, ih, List.countP_cons]
    by_cases h : est.getD u.toNat 0 ≥ k
    · simp only [decide_eq_true_eq, h, if_true]
      omega
    · simp only [decide_eq_true_eq, h, if_false]
      omega
/-- A set each of whose vertices has k neighbours in it. -/
def Dense (n : Nat) (nbs : Nat → List Int) (S : Nat → Bool) (k : Int) : Prop := ∀ u, S u = true → u < n ∧ k ≤ inSet S (nbs u)
def InCore (n : Nat) (nbs : Nat → List Int) (k : Int) (v : Nat) : Prop := ∃ S, S v = true ∧ Dense n nbs S k
theorem InCore.mono {n : Nat} {nbs : Nat → List Int} {k k' : Int} {v : Nat} (h : InCore n nbs k v) (hk : k' ≤ k) : InCore n nbs k' v := by
  obtain ⟨S, h1, h2⟩ := h
  exact ⟨S, h1, fun u hu => ⟨(h2 u hu).1, Int.le_trans hk (h2 u hu).2⟩⟩
theorem inCore_zero {n : Nat} {nbs : Nat → List Int} {v : Nat} (hv : v < n) : InCore n nbs 0 v := ⟨fun u => decide (u < n), by simpa using hv, fun u hu => ⟨by simpa using hu, inSet_nonneg _ _⟩⟩
theorem InCore.lt {n : Nat} {nbs : Nat → List Int} {k : Int} {v : Nat} (h : InCore n nbs k v) : v < n ∧ k ≤ (nbs v).length := by
  obtain ⟨S, h1, h2⟩ := h
  exact ⟨(h2 v h1).1, Int.le_trans (h2 v h1).2 (inSet_le _ _)⟩
structure IsCores (n : Nat) (nbs : Nat → List Int) (c : List Int) : Prop where
  len : c.length = n
  nonneg : ∀ v, v < n → 0 ≤ c.getD v 0
  isin : ∀ v, v < n → InCore n nbs (c.getD v 0) v
  most : ∀ v, v < n → ¬ InCore n nbs (c.getD v 0 + 1) v
theorem IsCores.le {n : Nat} {nbs : Nat → List Int} {c : List Int} (h : IsCores n nbs c) {k : Int} {v : Nat} (hk : InCore n nbs k v) : k ≤ c.getD v 0 := by
  rcases Int.lt_or_le (c.getD v 0) k with q | q
  · exact absurd (hk.mono (by omega)) (h.most v hk.lt.1)
  · exact q
theorem list_ext_getD {a b : List Int} (hl : a.length = b.length) (h : ∀ i, i < a.length → a.getD i 0 = b.getD i 0) : a = b := by
  refine List.ext_getElem hl (fun i h1 h2 => ?_)
  have := h i h1
  simpa [List.getD_eq_getElem?_getD, List.getElem?_eq_getElem, h1, h2] using this
theorem IsCores.uniq {n : Nat} {nbs : Nat → List Int} {c d : List Int} (h : IsCores n nbs c) (k : IsCores n nbs d) : c = d :=
  list_ext_getD (by rw [h.len, k.len]) (fun v hv => by
    rw [h.len] at hv
    have h1 := k.le (h.isin v hv)
    have h2 := h.le (k.isin v hv)
    omega)
theorem IsCores.holds {n : Nat} {nbs : Nat → List Int} (hN : Nbs n nbs) {c : List Int} (h : IsCores n nbs c) : Holds n nbs c := fun v hv => by
  obtain ⟨S, h1, h2⟩ := h.isin v hv
  rw [over_inSet]
  refine Int.le_trans (h2 v h1).2 (inSet_mono (fun u hu hs => ?_))
  simp only [decide_eq_true_eq]
  exact h.le ⟨S, hs, h2⟩
theorem stable_core {n : Nat} {nbs : Nat → List Int} (hN : Nbs n nbs) {r : List Int} (hr : ∀ v, v < n → Stable nbs r v) {v : Nat} (hv : v < n) : InCore n nbs (r.getD v 0) v := by
  refine ⟨fun u => decide (u < n) && decide (r.getD u 0 ≥ r.getD v 0), by simp [hv], fun u hu => ?_⟩
  simp only [Bool.and_eq_true, decide_eq_true_eq] at hu
  obtain ⟨hu1, hu2⟩ := hu
  refine ⟨hu1, ?_⟩
  have h1 := hr u hu1
  unfold Stable at h1
  have h2 := over_mono (l := vals (nbs u) r) hu2
  rw [over_inSet (k := r.getD v 0)] at h2
  refine Int.le_trans hu2 (Int.le_trans h1 (Int.le_trans h2 (inSet_mono (fun w hw hs => ?_))))
  have := hN.rng u hu1 w hw
  simp only [Bool.and_eq_true, decide_eq_true_eq] at hs ⊢
  exact ⟨by omega, hs⟩
/-- From numbers that are not below the cores a run ends at the cores. -/
theorem Left.cores {n : Nat} {nbs : Nat → List Int} (hN : Nbs n nbs) {est r fs c : List Int} (h : Left nbs n est r fs) (hc : IsCores n nbs c) (ha : ∀ j, j < n → c.getD j 0 ≤ est.getD j 0) : r = c :=
  list_ext_getD (by rw [h.len, hc.len]) (fun v hv => by
    rw [h.len] at hv
    have h1 := h.above c (hc.holds hN) ha v hv
    have h2 := hc.le (stable_core hN h.stable hv)
    omega)
/-- What is stable is a run's end: nothing more is left out of it. -/
theorem left_of_fix {n : Nat} {nbs : Nat → List Int} (hN : Nbs n nbs) {r : List Int} (hs : ∀ v, v < n → Stable nbs r v) : Holds n nbs r := hs
/-! ### Peeling: what is left when whoever has fewer than k neighbours goes -/
/-- left holds each set that has k neighbours everywhere. -/
def Covers (n : Nat) (nbs : Nat → List Int) (k : Int) (left : List Bool) : Prop := ∀ v, InCore n nbs k v → left.getD v false = true
theorem Covers.step {n : Nat} {nbs : Nat → List Int} {k : Int} {left : List Bool} (h : Covers n nbs k left) {v : Nat} (hf : inSet (fun u => left.getD u false) (nbs v) < k) : Covers n nbs k (left.set v false) := fun u hu => by
  have hu' := h u hu
  by_cases e : u = v
  · subst e
    exfalso
    obtain ⟨S, h1, h2⟩ := hu
    have h3 := (h2 u h1).2
    have h4 := inSet_mono (S := S) (S' := fun u => left.getD u false) (l := nbs u) (fun w _ hs => h _ ⟨S, hs, h2⟩)
    omega
  · simp only [List.getD_eq_getElem?_getD, List.getElem?_set_ne (Ne.symm e)] at hu' ⊢
    exact hu'
theorem covers_iff {n : Nat} {nbs : Nat → List Int} {k : Int} {left : List Bool} (hl : left.length = n) (h : Covers n nbs k left) (hd : ∀ v, v < n → left.getD v false = true → k ≤ inSet (fun u => left.getD u false) (nbs v)) (v : Nat) : left.getD v false = true ↔ InCore n nbs k v := by
  refine ⟨fun hv => ⟨fun u => left.getD u false, hv, fun u hu => ?_⟩, h v⟩
  have hu' : left.getD u false = true := hu
  have : u < n := by
    rcases Nat.lt_or_ge u n with q | q
    · exact q
    · rw [List.getD_eq_getElem?_getD, List.getElem?_eq_none (by omega)] at hu'
      cases hu'
  exact ⟨this, hd u this hu'⟩
def clip (nbs : Nat → List Int) (n : Nat) (est : List Int) : List Int := (List.range n).map (fun v => min (est.getD v 0) ((nbs v).length : Int))
def anyTo (nbs : Nat → List Int) (k : Nat) : Bool := (List.range k).any (fun v => decide (0 < (nbs v).length))
theorem anyTo_succ (nbs : Nat → List Int) (k : Nat) : anyTo nbs (k + 1) = (anyTo nbs k || decide (0 < (nbs k).length)) := by
  simp [anyTo, List.range_succ, List.any_append]
theorem clip_len (nbs : Nat → List Int) (n : Nat) (est : List Int) : (clip nbs n est).length = n := by simp [clip]
theorem clip_getD (nbs : Nat → List Int) (n : Nat) (est : List Int) (j : Nat) : (clip nbs n est).getD j 0 = if j < n then min (est.getD j 0) ((nbs j).length : Int) else 0 := by
  simp only [clip, List.getD_eq_getElem?_getD, List.getElem?_map]
  by_cases h : j < n
  · simp [h]
  · simp [h]
theorem sum_le {c : Int} : ∀ {l : List Int}, (∀ x ∈ l, x ≤ c) → sum l ≤ l.length * c
  | [], _ => by simp [sum]
  | a :: l, h => by
    have h1 := sum_le (l := l) (fun x hx => h x (by simp [hx]))
    have h2 := h a (by simp)
    simp only [sum, List.foldr_cons, List.length_cons, Int.natCast_add, Int.natCast_one, Int.add_mul, Int.one_mul] at *
    omega
theorem clip_sum {nbs : Nat → List Int} {n : Nat} {est : List Int} (hr : ∀ v, (nbs v).length ≤ 1048576) (hn : n ≤ 1048576) : sum (clip nbs n est) ≤ 1099511627776 := by
  have := sum_le (c := 1048576) (l := clip nbs n est) (fun x hx => by
    simp only [clip, List.mem_map] at hx
    obtain ⟨v, _, rfl⟩ := hx
    have := hr v
    omega)
  rw [clip_len] at this
  omega
theorem clip_nonneg {nbs : Nat → List Int} {n : Nat} {est : List Int} (h0 : ∀ j, 0 ≤ est.getD j 0) (j : Nat) : 0 ≤ (clip nbs n est).getD j 0 := by
  rw [clip_getD]
  have := h0 j
  split <;> omega
theorem Left.isCores {n : Nat} {nbs : Nat → List Int} (hN : Nbs n nbs) {est r fs : List Int} (h : Left nbs n est r fs) (hd : ∀ j, j < n → ((nbs j).length : Int) ≤ est.getD j 0) : IsCores n nbs r where
  len := h.len
  nonneg v _ := h.nonneg v
  isin v hv := stable_core hN h.stable hv
  most v hv := by
    rintro ⟨S, h1, h2⟩
    have hk := h.nonneg v
    have hq : ∀ j, j < n → ((List.range n).map (fun u => if S u = true then r.getD v 0 + 1 else 0)).getD j 0 = if S j = true then r.getD v 0 + 1 else 0 := fun j hj => by
      simp [List.getD_eq_getElem?_getD, hj]
    have hold : Holds n nbs ((List.range n).map (fun u => if S u = true then r.getD v 0 + 1 else 0)) := fun u hu => by
      rw [hq u hu]
      by_cases hs : S u = true
      · rw [if_pos hs, over_inSet]
        refine Int.le_trans (h2 u hs).2 (inSet_mono (fun w hw hsw => ?_))
        have := hN.rng u hu w hw
        rw [hq _ (by omega), if_pos hsw]
        simp
      · rw [if_neg hs]
        exact over_nonneg _ _
    have ha := h.above _ hold (fun j hj => by
      rw [hq j hj]
      have hd' := hd j hj
      by_cases hs : S j = true
      · rw [if_pos hs]
        have h3 := (h2 j hs).2
        have h4 := inSet_le S (nbs j)
        omega
      · rw [if_neg hs]
        omega) v hv
    rw [hq v hv, if_pos h1] at ha
    omega
end Go.Proofs.Ythbojpaghbbnnaa.Hx
