/- Plain laws: joined; GraphWays answers true. No condition. -/
import Derived.Test.YthbojpaghbbnnaaWJ
import Derived.Test.YthbojpaghbbnnaaWH
namespace Go.Proofs.Ythbojpaghbbnnaa
set_option linter.unusedVariables false
set_option linter.unusedSimpArgs false
theorem least_ex {P : Nat → Prop} : ∀ (m x : Nat), x ≤ m → P x → ∃ r, P r ∧ ∀ s, P s → r ≤ s
  | 0, x, hx, h => ⟨x, h, fun s _ => by omega⟩
  | m + 1, x, hx, h => by
    by_cases k : ∃ y, y ≤ m ∧ P y
    · obtain ⟨y, hy, hp⟩ := k
      exact least_ex m y hy hp
    · refine ⟨x, h, fun s hs => ?_⟩
      rcases Nat.lt_or_ge s x with q | q
      · exact absurd ⟨s, by omega, hs⟩ k
      · exact q
theorem Con.trans {G : Gr} {K : Nat → Bool} {a b c : Nat} (h : Con G K a b) (k : Con G K b c) : Con G K a c := by
  induction k with
  | here => exact h
  | step _ h1 h2 ih => exact ih.step h1 h2
open Classical in
noncomputable def rootOf (G : Gr) (K : Nat → Bool) (x : Nat) : Nat := if h : ∃ r, (K r = true ∧ Con G K r x) ∧ ∀ s, (K s = true ∧ Con G K s x) → r ≤ s then Classical.choose h else 0
theorem rootOf_is {G : Gr} {K : Nat → Bool} {x : Nat} (hx : K x = true) : (K (rootOf G K x) = true ∧ Con G K (rootOf G K x) x) ∧ ∀ s, (K s = true ∧ Con G K s x) → rootOf G K x ≤ s := by
  have h := least_ex (P := fun r => K r = true ∧ Con G K r x) x x (Nat.le_refl _) ⟨hx, .here⟩
  unfold rootOf
  rw [dif_pos h]
  exact Classical.choose_spec h
theorem parted_ex {G : Gr} (hG : G.Ok) (K : Nat → Bool) : ∃ p, Parted G K p := by
  have hg : ∀ x : Nat, ((List.range G.n).map (fun x => if K x = true then (rootOf G K x : Int) else -1))[x]? = if x < G.n then some (if K x = true then (rootOf G K x : Int) else -1) else none := fun x => by
    rw [List.getElem?_map]
    by_cases h : x < G.n
    · simp [h]
    · simp [h]
  refine ⟨(List.range G.n).map (fun x => if K x = true then (rootOf G K x : Int) else -1), by simp, fun x a h => ?_, fun x hn _ hk => ?_, fun x y hx hy hadj _ => ?_⟩
  · rw [hg] at h
    split at h
    · rename_i hlt
      injection h with h
      split at h
      · rename_i hk
        obtain ⟨⟨h1, h2⟩, h3⟩ := rootOf_is (G := G) hk
        have hle := h3 x ⟨hk, .here⟩
        refine .inr ⟨rootOf G K x, h.symm, hle, by omega, h1, hk, h2, ?_⟩
        rw [hg, if_pos (by omega), if_pos h1]
        obtain ⟨⟨g1, g2⟩, g3⟩ := rootOf_is (G := G) h1
        have a1 := g3 _ ⟨h1, .here⟩
        have a2 := h3 _ ⟨g1, g2.trans h2⟩
        rw [Nat.le_antisymm a1 a2]
      · exact .inl h.symm
    · cases h
  · rw [hg, if_pos hn, if_pos hk]
    intro e
    injection e with e
    omega
  · refine .inl ?_
    rw [hg, hg, if_pos (hG.rng' hadj), if_pos (hG.rng x y hadj), if_pos hx, if_pos hy]
    obtain ⟨⟨h1, h2⟩, h3⟩ := rootOf_is (G := G) hx
    obtain ⟨⟨g1, g2⟩, g3⟩ := rootOf_is (G := G) hy
    have a1 := g3 _ ⟨h1, h2.step hadj hy⟩
    have a2 := h3 _ ⟨g1, g2.step (by rw [hG.symm]; exact hadj) hx⟩
    rw [Nat.le_antisymm a1 a2]
/-- What Parted says, by getD. -/
structure PD (G : Gr) (K : Nat → Bool) (p : List Int) : Prop where
  len : p.length = G.n
  lab : ∀ x, x < G.n → (K x = false ∧ p.getD x 0 = -1) ∨ (K x = true ∧ ∃ r : Nat, p.getD x 0 = r ∧ r ≤ x ∧ K r = true ∧ Con G K r x ∧ p.getD r 0 = (r : Int))
  con : ∀ r x, r < G.n → K r = true → Con G K r x → x < G.n ∧ K x = true ∧ p.getD x 0 = p.getD r 0
theorem getD_some {l : List Int} {x : Nat} {a : Int} (h : l[x]? = some a) : l.getD x 0 = a := by rw [List.getD_eq_getElem?_getD, h]; rfl
theorem Parted.pd {G : Gr} (hG : G.Ok) {K : Nat → Bool} {p : List Int} (h : Parted G K p) : PD G K p := by
  have hs : ∀ x, x < G.n → p[x]? = some (p.getD x 0) := fun x hx => by
    rw [List.getD_eq_getElem?_getD, List.getElem?_eq_getElem (by rw [h.len]; exact hx)]; rfl
  refine ⟨h.len, fun x hx => ?_, fun r x hr hk hc => ?_⟩
  · have h1 := h.lab x _ (hs x hx)
    cases hk : K x with
    | false =>
      refine .inl ⟨rfl, ?_⟩
      rcases h1 with e | ⟨r, _, _, _, _, h5, _⟩
      · exact e
      · rw [hk] at h5; cases h5
    | true =>
      refine .inr ⟨rfl, ?_⟩
      rcases h1 with e | ⟨r, e, h2, h3, h4, _, h6, h7⟩
      · have := h.don x hx hx hk
        rw [hs x hx, e] at this
        exact absurd rfl this
      · exact ⟨r, e, h2, h4, h6, getD_some h7⟩
  · have hn : p[r]? ≠ some (-1) := h.don r hr hr hk
    obtain ⟨h1, h2⟩ := h.con hk hn hc
    have hx : x < G.n := by
      cases hc with
      | here => exact hr
      | step _ hadj _ => exact hG.rng' hadj
    rw [hs r hr] at h2
    exact ⟨hx, h1, getD_some h2⟩
end Go.Proofs.Ythbojpaghbbnnaa
namespace Go.Proofs.Ythbojpaghbbnnaa.Z
open Go Go.RowKit
set_option linter.unusedVariables false
set_option linter.unusedSimpArgs false
theorem nbFn {G : Gr} (u : Nat) : Neighbours.fn (some G) (u : Int) = (up (G.nb u), ()) := by
  simp only [Neighbours.fn, gr_some, Gr.nbz, Int.natCast_nonneg, if_true, Int.toNat_natCast]
theorem up_getD {l : List Nat} {i : Nat} (h : i < l.length) : ∃ w : Nat, (up l).getD i 0 = (w : Int) ∧ w ∈ l ∧ l[i]? = some w := by
  refine ⟨l[i], ?_, List.getElem_mem h, List.getElem?_eq_getElem h⟩
  rw [List.getD_eq_getElem?_getD, up, List.getElem?_map, List.getElem?_eq_getElem h]
  rfl
theorem mem_take_succ {α : Type} {l : List α} {i : Nat} {w x : α} (h : l[i]? = some w) : x ∈ l.take (i + 1) ↔ x ∈ l.take i ∨ x = w := by
  rw [List.take_add_one, h]
  simp
namespace joined
/-- One root's search: what is met is what earlier roots have, and todo. -/
structure Bf (G : Gr) (p : List Int) (v : Nat) (m : List Bool) (todo : List Int) : Prop where
  len : m.length = G.n
  tds : ∀ t ∈ todo, ∃ x : Nat, t = x ∧ x < G.n ∧ p.getD x 0 = (v : Int)
  root : (v : Int) ∈ todo
  met : ∀ x, x < G.n → (m.getD x false = true ↔ (0 ≤ p.getD x 0 ∧ p.getD x 0 < (v : Int)) ∨ (x : Int) ∈ todo)
def unmet (m : List Bool) : Nat := m.countP (fun b => !b)
theorem unmet_set {m : List Bool} {x : Nat} (hx : x < m.length) (h : m.getD x false = false) : unmet (m.set x true) + 1 = unmet m := by
  induction m generalizing x with
  | nil => simp at hx
  | cons b m ih =>
    unfold unmet at *
    cases x with
    | zero =>
      have : b = false := h
      subst this
      simp
    | succ x =>
      have := ih (x := x) (by simpa using hx) (by simpa using h)
      rw [List.set_cons_succ, List.countP_cons, List.countP_cons]
      omega
theorem unmet_le (m : List Bool) : unmet m ≤ m.length := List.countP_le_length
theorem Bf.push {G : Gr} {p : List Int} {v : Nat} {m : List Bool} {todo : List Int} (h : Bf G p v m todo) {w : Nat} (hw : w < G.n) (hp : p.getD w 0 = (v : Int)) : Bf G p v (m.set w true) (todo ++ [(w : Int)]) where
  len := by rw [List.length_set, h.len]
  tds t ht := by
    rcases List.mem_append.1 ht with ht | ht
    · exact h.tds t ht
    · rw [List.mem_singleton] at ht
      exact ⟨w, ht, hw, hp⟩
  root := List.mem_append.2 (.inl h.root)
  met x hx := by
    rw [getD_setP, List.mem_append, List.mem_singleton]
    by_cases e : w = x
    · subst e
      rw [if_pos ⟨rfl, by rw [h.len]; exact hw⟩]
      simp
    · rw [if_neg (fun q => e q.1), h.met x hx]
      have : ¬ ((x : Int) = (w : Int)) := by omega
      simp only [this, or_false]
theorem getD_append {l r : List Int} {j : Nat} (h : j < l.length) : (l ++ r).getD j 0 = l.getD j 0 := by
  rw [List.getD_eq_getElem?_getD, List.getD_eq_getElem?_getD, List.getElem?_append_left h]
theorem F13_is {G : Gr} (hG : G.Ok) (hn : G.n ≤ 3000) {p : List Int} (hp : p.length = G.n) {v u : Nat} {i : Int} {m : List Bool} {todo : List Int} (hB : Bf G p v m todo) (hu : u < G.n) (ht : todo.length + unmet m ≤ G.n + 1) :
    ∃ m' t', F13 (some G) p (v : Int) i (up (G.nb u)) 0 m todo = some ((some G, p, (v : Int), i, ()), (m', t', ())) ∧ Bf G p v m' t' ∧ t'.length + unmet m' ≤ G.n + 1 ∧ (∃ s, t' = todo ++ s) ∧ ∀ w ∈ G.nb u, p.getD w 0 = (v : Int) → (w : Int) ∈ t' := by
  have hl : (G.nb u).length ≤ 3000 := Nat.le_trans (Gr.nb_length_le G u) hn
  have hul := up_length (G.nb u)
  have key := F13_inv (g0 := some G) (p1 := p) (v6 := (v : Int)) (i8 := i) (to9 := up (G.nb u)) (fun k m t => 0 ≤ k ∧ k ≤ (G.nb u).length ∧ Bf G p v m t ∧ t.length + unmet m ≤ G.n + 1 ∧ (∃ s, t = todo ++ s) ∧ ∀ w ∈ (G.nb u).take k.toNat, p.getD w 0 = (v : Int) → (w : Int) ∈ t) (fun k _ _ => (G.nb u).length - k.toNat)
    (fun z => ∃ m' t', z = ((some G, p, (v : Int), i, ()), (m', t', ())) ∧ Bf G p v m' t' ∧ t'.length + unmet m' ≤ G.n + 1 ∧ (∃ s, t' = todo ++ s) ∧ ∀ w ∈ G.nb u, p.getD w 0 = (v : Int) → (w : Int) ∈ t') (fun k m t hi => by
    obtain ⟨h0, h1, h2, h3, h4, h5⟩ := hi
    have hml := h2.len
    unfold R13
    refine led_dif (fun q1 => ?_) (fun q1 => led_x ⟨_, _, rfl, h2, h3, h4, fun w hw => h5 w (by rw [take_all (by omega)]; exact hw)⟩)
    obtain ⟨w, e, hw, he⟩ := up_getD (l := G.nb u) (i := k.toNat) (by omega)
    have hwn : w < G.n := hG.rng' ((Gr.mem_nb hG).1 hw)
    have hwr : IntKind.wrap .i64 (k + 1) = k + 1 := wr (by omega) (by omega)
    have hk1 : (k + 1).toNat = k.toNat + 1 := by omega
    rw [hwr, e]
    simp only [Int.toNat_natCast]
    have next : (p.getD w 0 = (v : Int) → (w : Int) ∈ t) → Led (fun (R : Type) (k' : V13 → Option R) (kx : X13 → Option R) => k' ((some G, p, (v : Int), i, up (G.nb u), k + 1, ()), (m, t, ()))) (fun v' => ∃ (k' : Int) (m' : List Bool) (t' : List Int), v' = ((some G, p, (v : Int), i, up (G.nb u), k', ()), (m', t', ())) ∧ (0 ≤ k' ∧ k' ≤ (G.nb u).length ∧ Bf G p v m' t' ∧ t'.length + unmet m' ≤ G.n + 1 ∧ (∃ s, t' = todo ++ s) ∧ ∀ w ∈ (G.nb u).take k'.toNat, p.getD w 0 = (v : Int) → (w : Int) ∈ t') ∧ (G.nb u).length - k'.toNat < (G.nb u).length - k.toNat) (fun z => ∃ m' t', z = ((some G, p, (v : Int), i, ()), (m', t', ())) ∧ Bf G p v m' t' ∧ t'.length + unmet m' ≤ G.n + 1 ∧ (∃ s, t' = todo ++ s) ∧ ∀ w ∈ G.nb u, p.getD w 0 = (v : Int) → (w : Int) ∈ t') := fun hx =>
      led_k ⟨_, _, _, rfl, ⟨by omega, by omega, h2, h3, h4, fun x hx' => by
        rw [hk1, mem_take_succ he] at hx'
        rcases hx' with hx' | rfl
        · exact h5 x hx'
        · exact hx⟩, by omega⟩
    refine led_need h0 (led_need q1 (led_yes (decide_eq_true (by omega)) (led_need h0 (led_need q1 (led_yes (decide_eq_true (by omega)) (led_need h0 (led_need q1 (led_need (by omega) (led_need (by omega) (led_if (fun q2 => ?_) (fun q2 => next (fun q => absurd (by simp only [beq_iff_eq]; exact q) q2))))))))))))
    have q2' : p.getD w 0 = (v : Int) := by simpa using q2
    refine led_need h0 (led_need q1 (led_need (by omega) (led_need (by omega) (led_if (fun q3 => ?_) (fun q3 => next (fun _ => ?_))))))
    · have q3' : m.getD w false = false := by simpa using q3
      have hun := unmet_set (m := m) (x := w) (by omega) q3'
      refine led_need h0 (led_need q1 (led_need (by omega) (led_need (by omega) (led_need (by omega) (led_need h0 (led_need q1 (led_need (by rw [List.length_singleton]; omega) ?_)))))))
      obtain ⟨s, hs⟩ := h4
      refine led_k ⟨_, _, _, rfl, ⟨by omega, by omega, h2.push hwn q2', by rw [List.length_append, List.length_singleton]; omega, ⟨s ++ [(w : Int)], by rw [hs, List.append_assoc]⟩, fun x hx hpx => ?_⟩, by omega⟩
      rw [hk1, mem_take_succ he] at hx
      rcases hx with hx | rfl
      · exact List.mem_append.2 (.inl (h5 x hx hpx))
      · exact List.mem_append.2 (.inr (by simp))
    · have q3' : m.getD w false = true := by simpa using q3
      rcases (h2.met w hwn).1 q3' with ⟨_, q⟩ | q
      · omega
      · exact q) 0 m todo ⟨by omega, by omega, hB, ht, ⟨[], by simp⟩, fun w hw => by simp at hw⟩
  obtain ⟨z, hz, m', t', rfl, hq⟩ := key
  exact ⟨m', t', hz, hq⟩
/-- A root's search: all of its part are met. -/
theorem F9_is {G : Gr} (hG : G.Ok) (hn : G.n ≤ 3000) {K : Nat → Bool} {p : List Int} (hP : PD G K p) {v : Nat} (hv : v < G.n) (hpv : p.getD v 0 = (v : Int)) {m : List Bool} (hm : m.length = G.n) (hmet : ∀ x, x < G.n → (m.getD x false = true ↔ 0 ≤ p.getD x 0 ∧ p.getD x 0 < (v : Int))) :
    ∃ m', F9 (some G) p (v : Int) 0 (m.set v true) [(v : Int)] = some ((some G, p, (v : Int), ()), (m', ())) ∧ m'.length = G.n ∧ ∀ x, x < G.n → (m'.getD x false = true ↔ 0 ≤ p.getD x 0 ∧ p.getD x 0 < (v : Int) + 1) := by
  have hB0 : Bf G p v (m.set v true) [(v : Int)] := ⟨by rw [List.length_set, hm], fun t ht => ⟨v, by simpa using ht, hv, hpv⟩, by simp, fun x hx => by
    rw [getD_setP]
    by_cases e : v = x
    · subst e
      rw [if_pos ⟨rfl, by omega⟩]; simp
    · rw [if_neg (fun q => e q.1), hmet x hx]
      have : ¬ ((x : Int) = (v : Int)) := by omega
      simp [this]⟩
  have hKv : K v = true := by
    rcases hP.lab v hv with ⟨_, h⟩ | ⟨h, _⟩
    · omega
    · exact h
  have hu0 : unmet (m.set v true) ≤ G.n := by have := unmet_le (m.set v true); rw [List.length_set, hm] at this; exact this
  have key := F9_inv (g0 := some G) (p1 := p) (v6 := (v : Int)) (fun i m t => 0 ≤ i ∧ i ≤ t.length ∧ Bf G p v m t ∧ t.length + unmet m ≤ G.n + 1 ∧ ∀ j : Nat, (j : Int) < i → ∀ x w : Nat, t.getD j 0 = (x : Int) → G.adj x w = true → p.getD w 0 = (v : Int) → (w : Int) ∈ t) (fun i _ _ => G.n + 1 - i.toNat)
    (fun z => ∃ m', z = ((some G, p, (v : Int), ()), (m', ())) ∧ m'.length = G.n ∧ ∀ x, x < G.n → (m'.getD x false = true ↔ 0 ≤ p.getD x 0 ∧ p.getD x 0 < (v : Int) + 1)) (fun i m t hi => by
    obtain ⟨h0, h1, h2, h3, h4⟩ := hi
    unfold R9
    refine led_dif (fun q1 => ?_) (fun q1 => led_x ⟨_, rfl, h2.len, fun x hx => ?_⟩)
    · obtain ⟨u, eu, hun, hpu⟩ := h2.tds _ (mem_getD 0 t i.toNat (by omega))
      obtain ⟨m', t', e, g1, g2, ⟨s, g3⟩, g4⟩ := F13_is hG hn hP.len (i := i) h2 hun h3
      have hw : IntKind.wrap .i64 (i + 1) = i + 1 := wr (by omega) (by omega)
      rw [eu]
      refine led_need h0 (led_need q1 (led_need (by rfl) ?_))
      rw [nbFn]
      simp only [e]
      rw [hw]
      have hl : t.length ≤ t'.length := by rw [g3, List.length_append]; omega
      refine led_k ⟨_, _, _, rfl, ⟨by omega, by omega, g1, g2, fun j hj x w hx hadj hpw => ?_⟩, by omega⟩
      rw [g3, getD_append (by omega)] at hx
      by_cases ej : (j : Int) < i
      · rw [g3]
        exact List.mem_append.2 (.inl (h4 j ej x w hx hadj hpw))
      · have : j = i.toNat := by omega
        subst this
        rw [eu] at hx
        obtain rfl : u = x := Int.ofNat_inj.1 hx
        exact g4 w ((Gr.mem_nb hG).2 hadj) hpw
    · rw [h2.met x hx]
      constructor
      · rintro (⟨a, b⟩ | h)
        · exact ⟨a, by omega⟩
        · obtain ⟨y, e, _, hy⟩ := h2.tds _ h
          obtain rfl : x = y := Int.ofNat_inj.1 e
          omega
      · rintro ⟨a, b⟩
        by_cases e : p.getD x 0 = (v : Int)
        · right
          rcases hP.lab x hx with ⟨_, q⟩ | ⟨_, r, er, _, hr, hc, _⟩
          · omega
          · have : r = v := by omega
            subst this
            have all : ∀ y, Con G K r y → (y : Int) ∈ t := by
              intro y hc'
              induction hc' with
              | here => exact h2.root
              | @step x' y' hc' hadj hk ih =>
                have hy := hP.con r y' hv hKv (hc'.step hadj hk)
                obtain ⟨j, hj, ej⟩ := (mem_idx (0 : Int)).1 ih
                exact h4 j (by omega) x' y' ej hadj (by rw [hy.2.2, hpv])
            exact all x hc
        · exact .inl ⟨a, by omega⟩) 0 (m.set v true) [(v : Int)] ⟨by omega, by simp, hB0, by simp; omega, fun j hj => by omega⟩
  obtain ⟨z, hz, m', rfl, hq⟩ := key
  exact ⟨m', hz, hq⟩
theorem F3_is {G : Gr} (hG : G.Ok) (hn : G.n ≤ 3000) {K : Nat → Bool} {p : List Int} (hP : PD G K p) : ∃ m', F3 (some G) p 0 (List.replicate G.n false) = some ((p, ()), (m', ())) ∧ m'.length = G.n ∧ ∀ x, x < G.n → (m'.getD x false = true ↔ 0 ≤ p.getD x 0 ∧ p.getD x 0 < (G.n : Int)) := by
  have hpl := hP.len
  have key := F3_inv (g0 := some G) (p1 := p) (fun v m => 0 ≤ v ∧ v ≤ G.n ∧ m.length = G.n ∧ ∀ x, x < G.n → (m.getD x false = true ↔ 0 ≤ p.getD x 0 ∧ p.getD x 0 < v)) (fun v _ => G.n - v.toNat)
    (fun z => ∃ m', z = ((p, ()), (m', ())) ∧ m'.length = G.n ∧ ∀ x, x < G.n → (m'.getD x false = true ↔ 0 ≤ p.getD x 0 ∧ p.getD x 0 < (G.n : Int))) (fun v m hi => by
    obtain ⟨h0, h1, h2, h3⟩ := hi
    unfold R3
    refine led_dif (fun q1 => ?_) (fun q1 => led_x ⟨_, rfl, h2, ?_⟩)
    · have hw : IntKind.wrap .i64 (v + 1) = v + 1 := wr (by omega) (by omega)
      obtain ⟨n, rfl⟩ := Int.eq_ofNat_of_zero_le h0
      have hvn : n < G.n := by omega
      rw [Int.toNat_natCast]
      refine led_need h0 (led_need q1 (led_if (fun q2 => ?_) (fun q2 => ?_)))
      · have q2' : p.getD n 0 ≠ (n : Int) := by simpa using q2
        rw [hw]
        refine led_k ⟨_, _, rfl, ⟨by omega, by omega, h2, fun x hx => ?_⟩, by omega⟩
        rw [h3 x hx]
        constructor
        · rintro ⟨a, b⟩; exact ⟨a, by omega⟩
        · rintro ⟨a, b⟩
          refine ⟨a, ?_⟩
          rcases hP.lab x hx with ⟨_, q⟩ | ⟨_, r, er, _, _, _, hr⟩
          · omega
          · have : r ≠ n := fun e => by subst e; exact q2' hr
            omega
      · have q2' : p.getD n 0 = (n : Int) := by simpa using q2
        obtain ⟨m', e, g1, g2⟩ := F9_is hG hn hP hvn q2' h2 h3
        refine led_need h0 (led_need (by omega) (led_need (by omega) ?_))
        simp only [e]
        rw [hw]
        exact led_k ⟨_, _, rfl, ⟨by omega, by omega, g1, g2⟩, by omega⟩
    · obtain rfl : v = (G.n : Int) := by omega
      exact h3) 0 (List.replicate G.n false) ⟨by omega, by omega, by simp, fun x hx => by
        rw [List.getD_eq_getElem?_getD, List.getElem?_replicate, if_pos hx]
        simp⟩
  obtain ⟨z, hz, m', rfl, hq⟩ := key
  exact ⟨m', hz, hq⟩
theorem is {G : Gr} (hG : G.Ok) (hn : G.n ≤ 3000) {K : Nat → Bool} {p : List Int} (hP : PD G K p) : pre (some G) p = true ∧ fn (some G) p = (true, ()) := by
  have hpl := hP.len
  obtain ⟨m, e, g1, g2⟩ := F3_is hG hn hP
  have h19 : F19 p 0 m = some (Sum.inr ((), ())) := by
    have key := F19_inv (p1 := p) (r0 := m) (fun v => 0 ≤ v ∧ v ≤ G.n) (fun v => G.n - v.toNat) (fun z => z = Sum.inr ((), ())) (fun v hi => by
      obtain ⟨h0, h1⟩ := hi
      unfold R19
      refine led_dif (fun q1 => ?_) (fun q1 => led_x rfl)
      have hw : IntKind.wrap .i64 (v + 1) = v + 1 := wr (by omega) (by omega)
      rw [hw]
      refine led_need h0 (led_need q1 (led_dif (fun q2 => ?_) (fun q2 => led_k ⟨_, rfl, ⟨by omega, by omega⟩, by omega⟩)))
      have hx : v.toNat < G.n := by omega
      have hlt : p.getD v.toNat 0 < (G.n : Int) := by
        rcases hP.lab v.toNat hx with ⟨_, q⟩ | ⟨_, r, er, hr, _⟩ <;> omega
      have hm : m.getD v.toNat false = true := (g2 v.toNat hx).2 ⟨q2, hlt⟩
      rw [hm]
      exact led_need h0 (led_need (by omega) (led_no (by simp) (led_k ⟨_, rfl, ⟨by omega, by omega⟩, by omega⟩)))) 0 ⟨by omega, by omega⟩
    obtain ⟨z, hz, hq⟩ := key
    rw [hz, hq]
  refine is_fn _ _ ?_
  unfold run'
  rw [Int.toNat_natCast, hpl, if_pos rfl, if_pos (by omega)]
  simp only [e, h19]
end joined
namespace GraphWays
theorem F19_is {G : Gr} (hG : G.Ok) (hn : G.n ≤ 3000) {n : Int} {keep : List Bool} {p : List Int} (hP : PD G (kK keep) p) {v : Nat} (hv : v < G.n) : F19 n keep (some G) p (v : Int) (keep.getD v false) (up (G.nb v)) 0 = some (Sum.inr ((n, keep, some G, p, (v : Int), ()), ())) := by
  have hpl := hP.len
  have hl : (G.nb v).length ≤ 3000 := Nat.le_trans (Gr.nb_length_le G v) hn
  have hul := up_length (G.nb v)
  have key := F19_inv (n0 := n) (keep2 := keep) (g9 := some G) (p10 := p) (v11 := (v : Int)) (is12 := keep.getD v false) (to13 := up (G.nb v)) (fun i => 0 ≤ i ∧ i ≤ (G.nb v).length) (fun i => (G.nb v).length - i.toNat) (fun z => z = Sum.inr ((n, keep, some G, p, (v : Int), ()), ())) (fun i hi => by
    obtain ⟨h0, h1⟩ := hi
    unfold R19
    refine led_dif (fun q1 => led_if (fun q2 => ?_) (fun q2 => led_x rfl)) (fun q1 => led_x rfl)
    obtain ⟨w, e, hw, he⟩ := up_getD (l := G.nb v) (i := i.toNat) (by omega)
    have hadj := (Gr.mem_nb hG).1 hw
    have hwn : w < G.n := hG.rng' hadj
    have hwr : IntKind.wrap .i64 (i + 1) = i + 1 := wr (by omega) (by omega)
    rw [hwr, e]
    simp only [Int.toNat_natCast]
    have go : Led (fun (R : Type) (k' : V19 → Option R) (kx : X19 → Option R) => k' ((n, keep, some G, p, (v : Int), keep.getD v false, up (G.nb v), i + 1, ()), ())) (fun v' => ∃ i' : Int, v' = ((n, keep, some G, p, (v : Int), keep.getD v false, up (G.nb v), i', ()), ()) ∧ (0 ≤ i' ∧ i' ≤ (G.nb v).length) ∧ (G.nb v).length - i'.toNat < (G.nb v).length - i.toNat) (fun z => z = Sum.inr ((n, keep, some G, p, (v : Int), ()), ())) :=
      led_k ⟨_, rfl, ⟨by omega, by omega⟩, by omega⟩
    refine led_need h0 (led_need q1 (led_dif (fun q3 => ?_) (fun q3 => go)))
    refine led_need h0 (led_need q1 (led_need (by omega) (led_need q3 (led_if (fun q4 => ?_) (fun q4 => go)))))
    have hc := (hP.con v w hv q2 (Con.step .here hadj q4)).2.2
    refine led_need h0 (led_need q1 (led_need (by omega) (led_need (by omega) (led_need (by omega) (led_need (by omega) (led_no ?_ go))))))
    simp only [bne_iff_ne, ne_eq, Decidable.not_not]
    exact hc) 0 ⟨by omega, by omega⟩
  obtain ⟨z, hz, hq⟩ := key
  rw [hz, hq]
theorem F12_is {G : Gr} (hG : G.Ok) (hn : G.n ≤ 3000) {n : Int} (hnn : n = (G.n : Int)) {keep : List Bool} {p : List Int} (hP : PD G (kK keep) p) : F12 n keep (some G) p 0 = some (Sum.inr ((some G, p, ()), ())) := by
  have hpl := hP.len
  have key := F12_inv (n0 := n) (keep2 := keep) (g9 := some G) (p10 := p) (fun v => 0 ≤ v ∧ v ≤ G.n) (fun v => G.n - v.toNat) (fun z => z = Sum.inr ((some G, p, ()), ())) (fun v hi => by
    obtain ⟨h0, h1⟩ := hi
    unfold R12
    refine led_dif (fun q1 => ?_) (fun q1 => led_x rfl)
    obtain ⟨x, rfl⟩ := Int.eq_ofNat_of_zero_le h0
    have hx : x < G.n := by omega
    have hw : IntKind.wrap .i64 ((x : Int) + 1) = (x : Int) + 1 := wr (by omega) (by omega)
    have hF := F19_is hG hn (n := n) hP hx
    have hnp : Neighbours.pre (some G) (x : Int) = true := rfl
    rw [Int.toNat_natCast]
    have fin : Led (fun (R : Type) (k' : V12 → Option R) (kx : X12 → Option R) => k' ((n, keep, some G, p, (x : Int) + 1, ()), ())) (fun v' => ∃ i' : Int, v' = ((n, keep, some G, p, i', ()), ()) ∧ (0 ≤ i' ∧ i' ≤ G.n) ∧ G.n - i'.toNat < G.n - (x : Int).toNat) (fun z => z = Sum.inr ((some G, p, ()), ())) :=
      led_k ⟨_, rfl, ⟨by omega, by omega⟩, by omega⟩
    refine led_dif (fun q2 => ?_) (fun q2 => ?_)
    · refine led_need h0 (led_need q2 ?_)
      cases hk : keep.getD x false with
      | false =>
        have hp : p.getD x 0 = -1 := by
          rcases hP.lab x hx with ⟨_, q⟩ | ⟨q, _⟩
          · exact q
          · exact absurd q (by rw [show kK keep x = false from hk]; simp)
        rw [hk] at hF
        refine led_yes (by rfl) (led_need h0 (led_need (by omega) (led_yes (by rw [hp]; rfl) (led_no (by simp) (led_need hnp ?_)))))
        rw [nbFn]
        simp only [hF]
        rw [hw]
        exact fin
      | true =>
        rw [hk] at hF
        rcases hP.lab x hx with ⟨q, _⟩ | ⟨_, r, er, hr, _, _, hr2⟩
        · exact absurd hk (by rw [show keep.getD x false = false from q]; simp)
        · refine led_no (by simp) (led_yes (by rfl) (led_need h0 (led_need (by omega) (led_yes (decide_eq_false (by omega)) (led_need h0 (led_need (by omega) (led_yes (decide_eq_false (by omega)) (led_need h0 (led_need (by omega) ?_)))))))))
          rw [er]
          simp only [Int.toNat_natCast]
          refine led_need (by omega) (led_need (by omega) (led_need h0 (led_need (by omega) (led_no (by rw [hr2]; simp) (led_need hnp ?_)))))
          rw [nbFn]
          simp only [hF]
          rw [hw]
          exact fin
    · have hk : keep.getD x false = false := by rw [List.getD_eq_getElem?_getD, List.getElem?_eq_none (by omega)]; rfl
      have hp : p.getD x 0 = -1 := by
        rcases hP.lab x hx with ⟨_, q⟩ | ⟨q, _⟩
        · exact q
        · exact absurd q (by rw [show kK keep x = false from hk]; simp)
      rw [hk] at hF
      refine led_need h0 (led_need (by omega) (led_yes (by rw [hp]; rfl) (led_need hnp ?_)))
      rw [nbFn]
      simp only [hF]
      rw [hw]
      exact fin) 0 ⟨by omega, by omega⟩
  obtain ⟨z, hz, hq⟩ := key
  rw [hz, hq]
theorem holds (n : Int) (l : List (Int × Int)) (keep : List Bool) (w0 : (Lit.int .i64 n).wf = true) (w1 : l.length ≤ maxLen ∧ ∀ x ∈ l, (Lit.int .i64 x.1).wf = true ∧ (Lit.int .i64 x.2).wf = true) (w2 : keep.length ≤ maxLen ∧ ∀ x ∈ keep, True) : pre n l keep = true ∧ fn n l keep = (true, ()) := by
  refine is_fn _ _ _ ?_
  unfold run'
  by_cases hf : fineB n l = true
  · obtain ⟨g1, g2, hG, hGn, hn3, hnn⟩ := fine_graph hf
    generalize hGe : Gr.ofPairs n.toNat l = G at *
    by_cases hk : (keep.length : Int) > 20000
    · simp [first5.pre, first5.fn, fine.pre, fine.fn, hf, hk]
    · have hdk : decide ((keep.length : Int) > 20000) = false := decide_eq_false hk
      obtain ⟨p, hp⟩ := parted_ex hG (kK keep)
      have hP := hp.pd hG
      have hpl := hP.len
      have hF := F12_is hG (by omega) (n := n) (by omega) hP
      have hJ := joined.is hG (by omega) hP
      have hlen : (((p.length : Nat) : Int) != n) = false := by simp; omega
      simp only [first5.pre, first5.fn, fine.pre, fine.fn, hf, g1, g2, hdk, Parts.pre, Parts.fn, gr_some, parts_is hp, Option.isSome_some, Option.isNone_some, hlen, hF, hJ.1, hJ.2, if_true, Bool.not_true, Bool.false_eq_true, if_false]
  · have hf' : fineB n l = false := by simpa using hf
    simp [first5.pre, first5.fn, fine.pre, fine.fn, hf']
end GraphWays
end Go.Proofs.Ythbojpaghbbnnaa.Z
