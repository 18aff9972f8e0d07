/- Chapter 7 in plain words: cores, by what a core is; what a run leaves is the cores. No program, no memory; no condition. -/
import Derived.Test.YthbojpaghbbnnaaHX
namespace Go.Proofs.Ythbojpaghbbnnaa.Hx
set_option linter.unusedVariables false
set_option linter.unusedSimpArgs false
/-- How many of a list are in a set. -/
def inSet (S : Nat → Bool) (l : List Int) : Int := (l.countP (fun u => S u.toNat) : Nat)
theorem inSet_nonneg (S : Nat → Bool) (l : List Int) : 0 ≤ inSet S l := Int.natCast_nonneg _
theorem inSet_le (S : Nat → Bool) (l : List Int) : inSet S l ≤ l.length := by
  unfold inSet
  have := List.countP_le_length (p := fun u : Int => S u.toNat) (l := l)
  omega
theorem inSet_mono {S S' : Nat → Bool} {l : List Int} (h : ∀ u ∈ l, S u.toNat = true → S' u.toNat = true) : inSet S l ≤ inSet S' l := by
  unfold inSet
  have := List.countP_mono_left (p := fun u : Int => S u.toNat) (q := fun u : Int => S' u.toNat) (l := l) h
  omega
theorem over_inSet {nb est : List Int} {k : Int} : over (vals nb est) k = inSet (fun u => decide (est.getD u 0 ≥ k)) nb := by
  induction nb with
  | nil => rfl
  | cons u nb ih =>
    unfold vals inSet at *
    rw [List.map_cons, over_cons, ih, List.countP_cons]
    by_cases h : est.getD u.toNat 0 ≥ k
    · simp only [decide_eq_true_eq, h, if_true]
      omega
    · simp only [decide_eq_true_eq, h, if_false]
      omega
/-- A set each of whose vertices has k neighbours in it. -/
def Dense (n : Nat) (nbs : Nat → List Int) (S : Nat → Bool) (k : Int) : Prop := ∀ u, S u = true → u < n ∧ k ≤ inSet S (nbs u)
def InCore (n : Nat) (nbs : Nat → List Int) (k : Int) (v : Nat) : Prop := ∃ S, S v = true ∧ Dense n nbs S k
theorem InCore.mono {n : Nat} {nbs : Nat → List Int} {k k' : Int} {v : Nat} (h : InCore n nbs k v) (hk : k' ≤ k) : InCore n nbs k' v := by
  obtain ⟨S, h1, h2⟩ := h
  exact ⟨S, h1, fun u hu => ⟨(h2 u hu).1, Int.le_trans hk (h2 u hu).2⟩⟩
theorem inCore_zero {n : Nat} {nbs : Nat → List Int} {v : Nat} (hv : v < n) : InCore n nbs 0 v := ⟨fun u => decide (u < n), by simpa using hv, fun u hu => ⟨by simpa using hu, inSet_nonneg _ _⟩⟩
theorem InCore.lt {n : Nat} {nbs : Nat → List Int} {k : Int} {v : Nat} (h : InCore n nbs k v) : v < n ∧ k ≤ (nbs v).length := by
  obtain ⟨S, h1, h2⟩ := h
  exact ⟨(h2 v h1).1, Int.le_trans (h2 v h1).2 (inSet_le _ _)⟩
structure IsCores (n : Nat) (nbs : Nat → List Int) (c : List Int) : Prop where
  len : c.length = n
  nonneg : ∀ v, v < n → 0 ≤ c.getD v 0
  isin : ∀ v, v < n → InCore n nbs (c.getD v 0) v
  most : ∀ v, v < n → ¬ InCore n nbs (c.getD v 0 + 1) v
theorem IsCores.le {n : Nat} {nbs : Nat → List Int} {c : List Int} (h : IsCores n nbs c) {k : Int} {v : Nat} (hk : InCore n nbs k v) : k ≤ c.getD v 0 := by
  rcases Int.lt_or_le (c.getD v 0) k with q | q
  · exact absurd (hk.mono (by omega)) (h.most v hk.lt.1)
  · exact q
theorem list_ext_getD {a b : List Int} (hl : a.length = b.length) (h : ∀ i, i < a.length → a.getD i 0 = b.getD i 0) : a = b := by
  refine List.ext_getElem hl (fun i h1 h2 => ?_)
  have := h i h1
  simpa [List.getD_eq_getElem?_getD, List.getElem?_eq_getElem, h1, h2] using this
theorem IsCores.uniq {n : Nat} {nbs : Nat → List Int} {c d : List Int} (h : IsCores n nbs c) (k : IsCores n nbs d) : c = d :=
  list_ext_getD (by rw [h.len, k.len]) (fun v hv => by
    rw [h.len] at hv
    have h1 := k.le (h.isin v hv)
    have h2 := h.le (k.isin v hv)
    omega)
theorem IsCores.holds {n : Nat} {nbs : Nat → List Int} (hN : Nbs n nbs) {c : List Int} (h : IsCores n nbs c) : Holds n nbs c := fun v hv => by
  obtain ⟨S, h1, h2⟩ := h.isin v hv
  rw [over_inSet]
  refine Int.le_trans (h2 v h1).2 (inSet_mono (fun u hu hs => ?_))
  simp only [decide_eq_true_eq]
  exact h.le ⟨S, hs, h2⟩
theorem stable_core {n : Nat} {nbs : Nat → List Int} (hN : Nbs n nbs) {r : List Int} (hr : ∀ v, v < n → Stable nbs r v) {v : Nat} (hv : v < n) : InCore n nbs (r.getD v 0) v := by
  refine ⟨fun u => decide (u < n) && decide (r.getD u 0 ≥ r.getD v 0), by simp [hv], fun u hu => ?_⟩
  simp only [Bool.and_eq_true, decide_eq_true_eq] at hu
  obtain ⟨hu1, hu2⟩ := hu
  refine ⟨hu1, ?_⟩
  have h1 := hr u hu1
  unfold Stable at h1
  have h2 := over_mono (l := vals (nbs u) r) hu2
  rw [over_inSet (k := r.getD v 0)] at h2
  refine Int.le_trans hu2 (Int.le_trans h1 (Int.le_trans h2 (inSet_mono (fun w hw hs => ?_))))
  have := hN.rng u hu1 w hw
  simp only [Bool.and_eq_true, decide_eq_true_eq] at hs ⊢
  exact ⟨by omega, hs⟩
/-- From numbers that are not below the cores a run ends at the cores. -/
theorem Left.cores {n : Nat} {nbs : Nat → List Int} (hN : Nbs n nbs) {est r fs c : List Int} (h : Left nbs n est r fs) (hc : IsCores n nbs c) (ha : ∀ j, j < n → c.getD j 0 ≤ est.getD j 0) : r = c :=
  list_ext_getD (by rw [h.len, hc.len]) (fun v hv => by
    rw [h.len] at hv
    have h1 := h.above c (hc.holds hN) ha v hv
    have h2 := hc.le (stable_core hN h.stable hv)
    omega)
/-- What is stable is a run's end: nothing more is left out of it. -/
theorem left_of_fix {n : Nat} {nbs : Nat → List Int} (hN : Nbs n nbs) {r : List Int} (hs : ∀ v, v < n → Stable nbs r v) : Holds n nbs r := hs
/-! ### Peeling: what is left when whoever has fewer than k neighbours goes -/
/-- left holds each set that has k neighbours everywhere. -/
def Covers (n : Nat) (nbs : Nat → List Int) (k : Int) (left : List Bool) : Prop := ∀ v, InCore n nbs k v → left.getD v false = true
theorem Covers.step {n : Nat} {nbs : Nat → List Int} {k : Int} {left : List Bool} (h : Covers n nbs k left) {v : Nat} (hf : inSet (fun u => left.getD u false) (nbs v) < k) : Covers n nbs k (left.set v false) := fun u hu => by
  have hu' := h u hu
  by_cases e : u = v
  · subst e
    exfalso
    obtain ⟨S, h1, h2⟩ := hu
    have h3 := (h2 u h1).2
    have h4 := inSet_mono (S := S) (S' := fun u => left.getD u false) (l := nbs u) (fun w _ hs => h _ ⟨S, hs, h2⟩)
    omega
  · simp only [List.getD_eq_getElem?_getD, List.getElem?_set_ne (Ne.symm e)] at hu' ⊢
    exact hu'
theorem covers_iff {n : Nat} {nbs : Nat → List Int} {k : Int} {left : List Bool} (hl : left.length = n) (h : Covers n nbs k left) (hd : ∀ v, v < n → left.getD v false = true → k ≤ inSet (fun u => left.getD u false) (nbs v)) (v : Nat) : left.getD v false = true ↔ InCore n nbs k v := by
  refine ⟨fun hv => ⟨fun u => left.getD u false, hv, fun u hu => ?_⟩, h v⟩
  have hu' : left.getD u false = true := hu
  have : u < n := by
    rcases Nat.lt_or_ge u n with q | q
    · exact q
    · rw [List.getD_eq_getElem?_getD, List.getElem?_eq_none (by omega)] at hu'
      cases hu'
  exact ⟨this, hd u this hu'⟩
def clip (nbs : Nat → List Int) (n : Nat) (est : List Int) : List Int := (List.range n).map (fun v => min (est.getD v 0) ((nbs v).length : Int))
def anyTo (nbs : Nat → List Int) (k : Nat) : Bool := (List.range k).any (fun v => decide (0 < (nbs v).length))
theorem anyTo_succ (nbs : Nat → List Int) (k : Nat) : anyTo nbs (k + 1) = (anyTo nbs k || decide (0 < (nbs k).length)) := by
  simp [anyTo, List.range_succ, List.any_append]
theorem clip_len (nbs : Nat → List Int) (n : Nat) (est : List Int) : (clip nbs n est).length = n := by simp [clip]
theorem clip_getD (nbs : Nat → List Int) (n : Nat) (est : List Int) (j : Nat) : (clip nbs n est).getD j 0 = if j < n then min (est.getD j 0) ((nbs j).length : Int) else 0 := by
  simp only [clip, List.getD_eq_getElem?_getD, List.getElem?_map]
  by_cases h : j < n
  · simp [h]
  · simp [h]
theorem sum_le {c : Int} : ∀ {l : List Int}, (∀ x ∈ l, x ≤ c) → sum l ≤ l.length * c
  | [], _ => by simp [sum]
  | a :: l, h => by
    have h1 := sum_le (l := l) (fun x hx => h x (by simp [hx]))
    have h2 := h a (by simp)
    simp only [sum, List.foldr_cons, List.length_cons, Int.natCast_add, Int.natCast_one, Int.add_mul, Int.one_mul] at *
    omega
theorem clip_sum {nbs : Nat → List Int} {n : Nat} {est : List Int} (hr : ∀ v, (nbs v).length ≤ 1048576) (hn : n ≤ 1048576) : sum (clip nbs n est) ≤ 1099511627776 := by
  have := sum_le (c := 1048576) (l := clip nbs n est) (fun x hx => by
    simp only [clip, List.mem_map] at hx
    obtain ⟨v, _, rfl⟩ := hx
    have := hr v
    omega)
  rw [clip_len] at this
  omega
theorem clip_nonneg {nbs : Nat → List Int} {n : Nat} {est : List Int} (h0 : ∀ j, 0 ≤ est.getD j 0) (j : Nat) : 0 ≤ (clip nbs n est).getD j 0 := by
  rw [clip_getD]
  have := h0 j
  split <;> omega
theorem Left.isCores {n : Nat} {nbs : Nat → List Int} (hN : Nbs n nbs) {est r fs : List Int} (h : Left nbs n est r fs) (hd : ∀ j, j < n → ((nbs j).length : Int) ≤ est.getD j 0) : IsCores n nbs r where
  len := h.len
  nonneg v _ := h.nonneg v
  isin v hv := stable_core hN h.stable hv
  most v hv := by
    rintro ⟨S, h1, h2⟩
    have hk := h.nonneg v
    have hq : ∀ j, j < n → ((List.range n).map (fun u => if S u = true then r.getD v 0 + 1 else 0)).getD j 0 = if S j = true then r.getD v 0 + 1 else 0 := fun j hj => by
      simp [List.getD_eq_getElem?_getD, hj]
    have hold : Holds n nbs ((List.range n).map (fun u => if S u = true then r.getD v 0 + 1 else 0)) := fun u hu => by
      rw [hq u hu]
      by_cases hs : S u = true
      · rw [if_pos hs, over_inSet]
        refine Int.le_trans (h2 u hs).2 (inSet_mono (fun w hw hsw => ?_))
        have := hN.rng u hu w hw
        rw [hq _ (by omega), if_pos hsw]
        simp
      · rw [if_neg hs]
        exact over_nonneg _ _
    have ha := h.above _ hold (fun j hj => by
      rw [hq j hj]
      have hd' := hd j hj
      by_cases hs : S j = true
      · rw [if_pos hs]
        have h3 := (h2 j hs).2
        have h4 := inSet_le S (nbs j)
        omega
      · rw [if_neg hs]
        omega) v hv
    rw [hq v hv, if_pos h1] at ha
    omega
end Go.Proofs.Ythbojpaghbbnnaa.Hx
