/- Plain laws about graphs: one change and the edges, changes that change nothing, induced again, graphs that are their edges alone. No program, no memory; no condition. -/
import Derived.Test.YthbojpaghbbnnaaN
import Derived.Test.YthbojpaghbbnnaaV
namespace Go.Proofs.Ythbojpaghbbnnaa
set_option linter.unusedVariables false
set_option linter.unusedSimpArgs false
theorem Gr.ext' {G H : Gr} (hn : G.n = H.n) (h : ∀ u v, G.adj u v = true ↔ H.adj u v = true) : G = H := by
  obtain ⟨n, a⟩ := G
  obtain ⟨m, b⟩ := H
  simp only at hn h
  subst hn
  have : a = b := by
    funext u v
    exact Bool.eq_iff_iff.2 (h u v)
  rw [this]
theorem edges_add {G H : Gr} (hG : G.Ok) (hH : H.Ok) {a b : Nat} (hab : a < b) (h0 : G.adj a b = false) (h : ∀ u v, u < v → (H.adj u v = true ↔ G.adj u v = true ∨ (u = a ∧ v = b))) : H.edges = G.edges + 1 := by
  have hp : H.pairs.Perm ((a, b) :: G.pairs) := perm_of_mem H.pairs_nodup (List.nodup_cons.2 ⟨fun k => (by have := ((Gr.mem_pairs hG).1 k).2; rw [h0] at this; cases this), G.pairs_nodup⟩) (fun p => by
    obtain ⟨u, v⟩ := p
    rw [Gr.mem_pairs hH, List.mem_cons, Gr.mem_pairs hG]
    constructor
    · rintro ⟨h1, h2⟩
      rcases (h u v h1).1 h2 with k | ⟨rfl, rfl⟩
      · exact .inr ⟨h1, k⟩
      · exact .inl rfl
    · rintro (k | ⟨h1, h2⟩)
      · injection k with k1 k2
        subst k1; subst k2
        exact ⟨hab, (h _ _ hab).2 (.inr ⟨rfl, rfl⟩)⟩
      · exact ⟨h1, (h u v h1).2 (.inl h2)⟩)
  rw [Gr.edges, hp.length_eq]
  rfl
theorem edges_same {G H : Gr} (hn : G.n = H.n) (h : ∀ u v, H.adj u v = true ↔ G.adj u v = true) : H = G := Gr.ext' hn.symm h
/-- One change: what it says of the graph behind it. -/
theorem adj_ne {G : Gr} (hG : G.Ok) {a b : Nat} (h : G.adj a b = true) : a ≠ b := fun e => by subst e; rw [hG.irr] at h; cases h
def isPair (c : Chg) (a b : Nat) : Prop := (c.1.1 = a ∧ c.1.2 = b) ∨ (c.1.1 = b ∧ c.1.2 = a)
theorem chg_has {G : Gr} (hG : G.Ok) {c : Chg} (hc : okP G.n c.1 = true) : (G.chg c).has c.1.1 c.1.2 = (decide (c.1.1 ≠ c.1.2) && !c.2) := by
  obtain ⟨⟨U, V⟩, g⟩ := c
  have h' := okP_iff.1 hc
  simp only at h'
  obtain ⟨⟨h1, h2⟩, h3, h4⟩ := h'
  obtain ⟨u, rfl⟩ := Int.eq_ofNat_of_zero_le h1
  obtain ⟨v, rfl⟩ := Int.eq_ofNat_of_zero_le h3
  refine Bool.eq_iff_iff.2 ?_
  simp only [Gr.has, Int.toNat_natCast, h1, h3, decide_true, Bool.true_and, chg_adj]
  by_cases e : u = v
  · subst e
    simp [hG.irr]
  · cases g <;> simp [e] <;> omega
theorem chg_rest {G : Gr} (hG : G.Ok) {c : Chg} {a b : Nat} (h : G.adj a b = true) (hn : ¬ ((a : Int) = min c.1.1 c.1.2 ∧ (b : Int) = max c.1.1 c.1.2)) (hl : a < b) : (G.chg c).has a b = true := by
  simp only [Gr.has, Int.toNat_natCast, Int.natCast_nonneg, decide_true, Bool.true_and, chg_adj]
  refine .inr ⟨fun ⟨_, k⟩ => hn ?_, h⟩
  rcases k with ⟨k1, k2⟩ | ⟨k1, k2⟩ <;> constructor <;> omega
theorem chg_edges {G : Gr} (hG : G.Ok) {c : Chg} (hc : okP G.n c.1 = true) : (G.chg c).edges = if c.1.1 ≠ c.1.2 ∧ G.has c.1.1 c.1.2 = true ∧ c.2 = true then G.edges - 1 else if c.1.1 ≠ c.1.2 ∧ G.has c.1.1 c.1.2 = false ∧ c.2 = false then G.edges + 1 else G.edges := by
  have hH := chg_ok hG hc
  have hn := (changed_n G [c]).symm
  obtain ⟨⟨U, V⟩, g⟩ := c
  have h' := okP_iff.1 hc
  simp only at h'
  obtain ⟨⟨h1, h2⟩, h3, h4⟩ := h'
  obtain ⟨u, rfl⟩ := Int.eq_ofNat_of_zero_le h1
  obtain ⟨v, rfl⟩ := Int.eq_ofNat_of_zero_le h3
  simp only [Gr.has, Int.toNat_natCast, h1, h3, decide_true, Bool.true_and]
  have hadj := chg_adj G (((u : Int), (v : Int)), g)
  simp only at hadj
  have hm : ∀ a b : Nat, a < b → ((((u : Int) = a ∧ (v : Int) = b) ∨ ((u : Int) = b ∧ (v : Int) = a)) ↔ (a = min u v ∧ b = max u v)) := fun a b hab => by omega
  have hs : G.adj (min u v) (max u v) = G.adj u v := by
    rcases Nat.le_total u v with k | k
    · rw [Nat.min_eq_left k, Nat.max_eq_right k]
    · rw [Nat.min_eq_right k, Nat.max_eq_left k, hG.symm]
  by_cases e : u = v
  · subst e
    have : G.chg (((u : Int), (u : Int)), g) = G := Gr.ext' hn.symm (fun a b => by
      rw [hadj]
      have : ¬ (a ≠ b ∧ (((u : Int) = a ∧ (u : Int) = b) ∨ ((u : Int) = b ∧ (u : Int) = a))) := by omega
      constructor
      · rintro (⟨h1, h2, _⟩ | ⟨_, h⟩)
        · exact absurd ⟨h1, h2⟩ this
        · exact h
      · exact fun h => .inr ⟨this, h⟩)
    rw [this]
    simp
  · have e' : (u : Int) ≠ (v : Int) := by omega
    have hlt : min u v < max u v := by omega
    cases hg : g with
    | true =>
      subst hg
      cases hw : G.adj u v with
      | true =>
        rw [if_pos ⟨e', rfl, rfl⟩]
        have := edges_add (G := G.chg (((u : Int), (v : Int)), true)) (H := G) hH hG hlt (by
          refine Bool.eq_false_iff.2 (fun k => ?_)
          rw [hadj] at k
          rcases k with ⟨_, _, k⟩ | ⟨k, _⟩
          · cases k
          · exact k ⟨by omega, (hm _ _ hlt).2 ⟨rfl, rfl⟩⟩) (fun a b hab => by
          rw [hadj]
          constructor
          · intro h
            by_cases k : a = min u v ∧ b = max u v
            · exact .inr k
            · exact .inl (.inr ⟨fun ⟨_, q⟩ => k ((hm a b hab).1 q), h⟩)
          · rintro ((⟨_, _, k⟩ | ⟨_, h⟩) | ⟨rfl, rfl⟩)
            · cases k
            · exact h
            · rw [hs]; exact hw)
        omega
      | false =>
        rw [if_neg (by simp), if_neg (by simp)]
        have : G.chg (((u : Int), (v : Int)), true) = G := Gr.ext' hn.symm (fun a b => by
          rw [hadj]
          constructor
          · rintro (⟨_, _, k⟩ | ⟨_, h⟩)
            · cases k
            · exact h
          · intro h
            refine .inr ⟨fun ⟨hne, q⟩ => ?_, h⟩
            rcases Nat.lt_or_gt_of_ne hne with hl | hl
            · obtain ⟨rfl, rfl⟩ := (hm a b hl).1 q
              rw [hs, hw] at h; cases h
            · obtain ⟨rfl, rfl⟩ := (hm b a hl).1 (Or.symm q)
              rw [hG.symm, hs, hw] at h; cases h)
        rw [this]
    | false =>
      subst hg
      cases hw : G.adj u v with
      | false =>
        rw [if_neg (by simp), if_pos ⟨e', rfl, rfl⟩]
        exact edges_add hG hH hlt (by rw [hs]; exact hw) (fun a b hab => by
          rw [hadj]
          constructor
          · rintro (⟨_, k, _⟩ | ⟨_, h⟩)
            · exact .inr ((hm a b hab).1 k)
            · exact .inl h
          · rintro (h | k)
            · by_cases k : a = min u v ∧ b = max u v
              · exact .inl ⟨by omega, (hm a b hab).2 k, rfl⟩
              · exact .inr ⟨fun ⟨_, q⟩ => k ((hm a b hab).1 q), h⟩
            · exact .inl ⟨by omega, (hm a b hab).2 k, rfl⟩)
      | true =>
        rw [if_neg (by simp), if_neg (by simp)]
        have : G.chg (((u : Int), (v : Int)), false) = G := Gr.ext' hn.symm (fun a b => by
          rw [hadj]
          constructor
          · rintro (⟨hne, k, _⟩ | ⟨_, h⟩)
            · rcases Nat.lt_or_gt_of_ne hne with hl | hl
              · obtain ⟨rfl, rfl⟩ := (hm a b hl).1 k
                rw [hs]; exact hw
              · obtain ⟨rfl, rfl⟩ := (hm b a hl).1 (Or.symm k)
                rw [hG.symm, hs]; exact hw
            · exact h
          · intro h
            by_cases k : a ≠ b ∧ (((u : Int) = a ∧ (v : Int) = b) ∨ ((u : Int) = b ∧ (v : Int) = a))
            · exact .inl ⟨k.1, k.2, rfl⟩
            · exact .inr ⟨k, h⟩)
        rw [this]
theorem edges_pos {G : Gr} (hG : G.Ok) {u v : Nat} (h : G.adj u v = true) : 0 < G.edges := by
  have hne := adj_ne hG h
  rw [Gr.edges]
  rcases Nat.lt_or_gt_of_ne hne with hl | hl
  · exact List.length_pos_of_mem ((Gr.mem_pairs hG).2 ⟨hl, h⟩)
  · exact List.length_pos_of_mem ((Gr.mem_pairs hG).2 ⟨hl, by rw [hG.symm]; exact h⟩)
theorem edges_le (G : Gr) : G.edges ≤ G.n * G.n := pairsTo_le G G.n
theorem ofPairs_adj {n : Nat} {ps : List (Int × Int)} {u v : Nat} : (Gr.ofPairs n ps).adj u v = true ↔ u ≠ v ∧ ∃ p ∈ ps, (p.1 = (u : Int) ∧ p.2 = (v : Int)) ∨ (p.1 = (v : Int) ∧ p.2 = (u : Int)) := by
  simp only [Gr.ofPairs, Bool.and_eq_true, decide_eq_true_eq, List.any_eq_true, Bool.or_eq_true]
theorem ofPairs_ok {n : Nat} {ps : List (Int × Int)} (hn : n ≤ 16777216) (h : ∀ p ∈ ps, okP n p = true) : (Gr.ofPairs n ps).Ok where
  symm u v := Bool.eq_iff_iff.2 (by
    rw [ofPairs_adj, ofPairs_adj]
    constructor
    · rintro ⟨h1, p, h2, h3⟩; exact ⟨fun e => h1 e.symm, p, h2, h3.symm⟩
    · rintro ⟨h1, p, h2, h3⟩; exact ⟨fun e => h1 e.symm, p, h2, h3.symm⟩)
  irr u := Bool.eq_false_iff.2 (fun k => (ofPairs_adj.1 k).1 rfl)
  rng u v k := by
    obtain ⟨_, p, h2, h3⟩ := ofPairs_adj.1 k
    have h4 := okP_iff.1 (h p h2)
    have : (Gr.ofPairs n ps).n = n := rfl
    omega
  small := hn
theorem ofPairs_same {n : Nat} {ps qs : List (Int × Int)} (h : ∀ u v : Nat, u ≠ v → ((∃ p ∈ ps, (p.1 = (u : Int) ∧ p.2 = (v : Int)) ∨ (p.1 = (v : Int) ∧ p.2 = (u : Int))) ↔ ∃ p ∈ qs, (p.1 = (u : Int) ∧ p.2 = (v : Int)) ∨ (p.1 = (v : Int) ∧ p.2 = (u : Int)))) : Gr.ofPairs n ps = Gr.ofPairs n qs :=
  Gr.ext' rfl (fun u v => by
    rw [ofPairs_adj, ofPairs_adj]
    constructor
    · rintro ⟨h1, h2⟩; exact ⟨h1, (h u v h1).1 h2⟩
    · rintro ⟨h1, h2⟩; exact ⟨h1, (h u v h1).2 h2⟩)
theorem mem_upP {l : List (Nat × Nat)} {p : Int × Int} : p ∈ upP l ↔ ∃ u v : Nat, (u, v) ∈ l ∧ p = ((u : Int), (v : Int)) := by
  simp only [upP, List.mem_map]
  constructor
  · rintro ⟨⟨u, v⟩, h, rfl⟩; exact ⟨u, v, h, rfl⟩
  · rintro ⟨u, v, h, rfl⟩; exact ⟨(u, v), h, rfl⟩
theorem ofPairs_pairs {G : Gr} (hG : G.Ok) : Gr.ofPairs G.n (upP G.pairs) = G := Gr.ext' rfl (fun u v => by
  rw [ofPairs_adj]
  constructor
  · rintro ⟨h1, p, h2, h3⟩
    obtain ⟨a, b, h4, rfl⟩ := mem_upP.1 h2
    have h5 := ((Gr.mem_pairs hG).1 h4).2
    rcases h3 with ⟨h6, h7⟩ | ⟨h6, h7⟩
    · obtain rfl : a = u := Int.ofNat_inj.1 h6
      obtain rfl : b = v := Int.ofNat_inj.1 h7
      exact h5
    · obtain rfl : a = v := Int.ofNat_inj.1 h6
      obtain rfl : b = u := Int.ofNat_inj.1 h7
      rw [hG.symm]; exact h5
  · intro h
    have hne := adj_ne hG h
    refine ⟨hne, ?_⟩
    rcases Nat.lt_or_gt_of_ne hne with hl | hl
    · exact ⟨_, mem_upP.2 ⟨u, v, (Gr.mem_pairs hG).2 ⟨hl, h⟩, rfl⟩, .inl ⟨rfl, rfl⟩⟩
    · exact ⟨_, mem_upP.2 ⟨v, u, (Gr.mem_pairs hG).2 ⟨hl, by rw [hG.symm]; exact h⟩, rfl⟩, .inr ⟨rfl, rfl⟩⟩)
/-! ### Induced, and changes that change nothing -/
def both (a b : List Bool) : List Bool := List.zipWith (· && ·) a b
theorem both_getD (a b : List Bool) (u : Nat) : (both a b).getD u false = (a.getD u false && b.getD u false) := by
  simp only [both, List.getD_eq_getElem?_getD, List.getElem?_zipWith]
  cases a[u]? <;> cases b[u]? <;> simp
theorem induced_both (G : Gr) (a b : List Bool) : (G.induced a).induced b = G.induced (both a b) := Gr.ext' rfl (fun u v => by
  simp only [Gr.induced, both_getD, Bool.and_eq_true]
  constructor
  · rintro ⟨⟨h1, h2, h3⟩, h4, h5⟩; exact ⟨h1, ⟨h2, h4⟩, h3, h5⟩
  · rintro ⟨h1, ⟨h2, h4⟩, h3, h5⟩; exact ⟨⟨h1, h2, h3⟩, h4, h5⟩)
theorem induced_all {G : Gr} (hG : G.Ok) : G.induced (List.replicate G.n true) = G := Gr.ext' rfl (fun u v => by
  simp only [Gr.induced, Bool.and_eq_true]
  constructor
  · exact fun h => h.1
  · intro h
    have h1 := hG.rng u v h
    have h2 := hG.rng' h
    refine ⟨h, ?_, ?_⟩ <;> simp [List.getD_eq_getElem?_getD, List.getElem?_replicate, h1, h2])
theorem chg_noop {G : Gr} (hG : G.Ok) {c : Chg} (hc : okP G.n c.1 = true) (h : c.1.1 = c.1.2 ∨ G.has c.1.1 c.1.2 = !c.2) : G.chg c = G := Gr.ext' rfl (fun a b => by
  obtain ⟨⟨U, V⟩, g⟩ := c
  have h' := okP_iff.1 hc
  simp only at h' h
  obtain ⟨⟨h1, h2⟩, h3, h4⟩ := h'
  obtain ⟨u, rfl⟩ := Int.eq_ofNat_of_zero_le h1
  obtain ⟨v, rfl⟩ := Int.eq_ofNat_of_zero_le h3
  simp only [Gr.has, Int.toNat_natCast, h1, h3, decide_true, Bool.true_and] at h
  rw [chg_adj]
  simp only
  constructor
  · rintro (⟨hne, k, hg⟩ | ⟨_, h⟩)
    · rcases h with h | h
      · omega
      · rw [hg] at h
        rcases k with ⟨k1, k2⟩ | ⟨k1, k2⟩
        · obtain rfl : u = a := by omega
          obtain rfl : v = b := by omega
          exact h
        · obtain rfl : u = b := by omega
          obtain rfl : v = a := by omega
          rw [hG.symm]; exact h
    · exact h
  · intro hab
    by_cases k : a ≠ b ∧ (((u : Int) = a ∧ (v : Int) = b) ∨ ((u : Int) = b ∧ (v : Int) = a))
    · refine .inl ⟨k.1, k.2, ?_⟩
      rcases h with h | h
      · omega
      · have : G.adj u v = true := by
          rcases k.2 with ⟨k1, k2⟩ | ⟨k1, k2⟩
          · obtain rfl : u = a := by omega
            obtain rfl : v = b := by omega
            exact hab
          · obtain rfl : u = b := by omega
            obtain rfl : v = a := by omega
            rw [hG.symm]; exact hab
        rw [this] at h
        cases g
        · rfl
        · cases h
    · exact .inr ⟨k, hab⟩)
theorem chg_swap (G : Gr) (u v : Int) (g : Bool) : G.chg ((u, v), g) = G.chg ((v, u), g) := Gr.ext' rfl (fun a b => by
  rw [chg_adj, chg_adj]
  simp only
  have : ((u = (a : Int) ∧ v = (b : Int)) ∨ (u = (b : Int) ∧ v = (a : Int))) ↔ ((v = (a : Int) ∧ u = (b : Int)) ∨ (v = (b : Int) ∧ u = (a : Int))) := by omega
  rw [this])
theorem chg_chg (G : Gr) (p : Int × Int) (g g' : Bool) : (G.chg (p, g)).chg (p, g') = G.chg (p, g') := Gr.ext' rfl (fun a b => by
  rw [chg_adj, chg_adj, chg_adj]
  simp only
  by_cases k : a ≠ b ∧ ((p.1 = (a : Int) ∧ p.2 = (b : Int)) ∨ (p.1 = (b : Int) ∧ p.2 = (a : Int)))
  · simp [k]
  · have : ¬ (a ≠ b ∧ ((p.1 = (a : Int) ∧ p.2 = (b : Int)) ∨ (p.1 = (b : Int) ∧ p.2 = (a : Int))) ∧ g' = false) := fun ⟨h1, h2, _⟩ => k ⟨h1, h2⟩
    have h2 : ¬ (a ≠ b ∧ ((p.1 = (a : Int) ∧ p.2 = (b : Int)) ∨ (p.1 = (b : Int) ∧ p.2 = (a : Int))) ∧ g = false) := fun ⟨h1, h2, _⟩ => k ⟨h1, h2⟩
    simp only [this, h2, k, false_or, not_false_eq_true, true_and])
end Go.Proofs.Ythbojpaghbbnnaa
