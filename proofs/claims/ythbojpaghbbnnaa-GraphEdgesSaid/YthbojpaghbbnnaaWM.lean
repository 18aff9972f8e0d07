/- Plain law: GraphEdges answers true. No condition. -/
import Derived.Test.YthbojpaghbbnnaaWK
import Derived.Test.YthbojpaghbbnnaaWH
namespace Go.Proofs.Ythbojpaghbbnnaa.Z
open Go Go.RowKit
set_option linter.unusedVariables false
set_option linter.unusedSimpArgs false
abbrev dP : Int × Int := ((0 : Int), (0 : Int))
def SyP (p : Int × Int) (u v : Nat) : Prop := (p.1 = (u : Int) ∧ p.2 = (v : Int)) ∨ (p.1 = (v : Int) ∧ p.2 = (u : Int))
def Sy (l : List (Int × Int)) (u v : Nat) : Prop := ∃ p ∈ l, SyP p u v
theorem sy_idx {l : List (Int × Int)} {u v : Nat} : Sy l u v ↔ ∃ j, j < l.length ∧ SyP (l.getD j dP) u v := by
  constructor
  · rintro ⟨p, hp, h⟩
    obtain ⟨j, hj, rfl⟩ := (mem_idx dP).1 hp
    exact ⟨j, hj, h⟩
  · rintro ⟨j, hj, h⟩
    exact ⟨_, mem_getD dP l j hj, h⟩
theorem ok_idx {n : Int} {l : List (Int × Int)} : prsOk n l = true ↔ ∀ j, j < l.length → okP n.toNat (l.getD j dP) = true := by
  rw [prsOk, List.all_eq_true]
  constructor
  · exact fun h j hj => h _ (mem_getD dP l j hj)
  · intro h p hp
    obtain ⟨j, hj, rfl⟩ := (mem_idx dP).1 hp
    exact h j hj
structure Alk (n : Int) (l r : List (Int × Int)) : Prop where
  ok : prsOk n r = true
  len : r.length = l.length
  sy : ∀ u v : Nat, u ≠ v → (Sy r u v ↔ Sy l u v)
theorem SyP.flip {p : Int × Int} {u v : Nat} : SyP (p.2, p.1) u v ↔ SyP p u v := by
  simp only [SyP]
  omega
theorem okP_flip {n : Nat} {p : Int × Int} : okP n (p.2, p.1) = okP n p := Bool.eq_iff_iff.2 (by rw [okP_iff, okP_iff]; simp only; omega)
theorem Alk.flip {n : Int} {l r : List (Int × Int)} (h : Alk n l r) {i : Nat} (hi : i < r.length) : Alk n l (r.set i ((r.getD i dP).2, (r.getD i dP).1)) where
  ok := ok_idx.2 (fun j hj => by
    rw [List.length_set] at hj
    rw [getD_setP]
    split
    · rw [okP_flip]; exact ok_idx.1 h.ok i hi
    · exact ok_idx.1 h.ok j hj)
  len := by rw [List.length_set, h.len]
  sy u v huv := by
    rw [← h.sy u v huv, sy_idx, sy_idx, List.length_set]
    constructor
    · rintro ⟨j, hj, k⟩
      rw [getD_setP] at k
      split at k
      · exact ⟨i, hi, SyP.flip.1 k⟩
      · exact ⟨j, hj, k⟩
    · rintro ⟨j, hj, k⟩
      refine ⟨j, hj, ?_⟩
      rw [getD_setP]
      split
      · rename_i e
        obtain ⟨rfl, _⟩ := e
        exact SyP.flip.2 k
      · exact k
theorem Alk.swap {n : Int} {l r : List (Int × Int)} (h : Alk n l r) {i k : Nat} (hi : i < r.length) (hk : k < r.length) : Alk n l ((r.set i (r.getD k dP)).set k (r.getD i dP)) := by
  have hg : ∀ j, ((r.set i (r.getD k dP)).set k (r.getD i dP)).getD j dP = if k = j then r.getD i dP else if i = j then r.getD k dP else r.getD j dP := fun j => by
    rw [getD_setP, List.length_set, getD_setP]
    by_cases e1 : k = j
    · rw [if_pos ⟨e1, hk⟩, if_pos e1]
    · rw [if_neg (fun q => e1 q.1), if_neg e1]
      by_cases e2 : i = j
      · rw [if_pos ⟨e2, hi⟩, if_pos e2]
      · rw [if_neg (fun q => e2 q.1), if_neg e2]
  have hl : ((r.set i (r.getD k dP)).set k (r.getD i dP)).length = r.length := by rw [List.length_set, List.length_set]
  refine ⟨ok_idx.2 (fun j hj => ?_), by rw [hl, h.len], fun u v huv => ?_⟩
  · rw [hg]
    split
    · exact ok_idx.1 h.ok i hi
    · split
      · exact ok_idx.1 h.ok k hk
      · exact ok_idx.1 h.ok j (by omega)
  · rw [← h.sy u v huv, sy_idx, sy_idx, hl]
    constructor
    · rintro ⟨j, hj, q⟩
      rw [hg] at q
      split at q
      · exact ⟨i, hi, q⟩
      · split at q
        · exact ⟨k, hk, q⟩
        · exact ⟨j, hj, q⟩
    · rintro ⟨j, hj, q⟩
      by_cases e1 : i = j
      · subst e1
        exact ⟨k, hk, by rw [hg, if_pos rfl]; exact q⟩
      · by_cases e2 : k = j
        · subst e2
          refine ⟨i, hi, ?_⟩
          rw [hg, if_neg (fun e => e1 e.symm), if_pos rfl]
          exact q
        · refine ⟨j, hj, ?_⟩
          rw [hg, if_neg e2, if_neg e1]
          exact q
/-- Lists with the same edges make the same graph. -/
theorem sy_graph {n : Int} {l r : List (Int × Int)} (h : ∀ u v : Nat, u ≠ v → (Sy r u v ↔ Sy l u v)) : Gr.ofPairs n.toNat r = Gr.ofPairs n.toNat l := ofPairs_same h
namespace GraphEdges
theorem F10_is {n : Int} {turn : List Bool} {order : List Int} {g : Option Gr} {l : List (Int × Int)} (hl : l.length ≤ 9000000) (ho : prsOk n l = true) : ∃ r, F10 n turn order g 0 l = some ((n, turn, g, ()), (r, ())) ∧ Alk n l r := by
  have key := F10_inv (n0 := n) (turn2 := turn) (order3 := order) (g11 := g) (fun i r => 0 ≤ i ∧ i ≤ r.length ∧ Alk n l r) (fun i r => l.length - i.toNat) (fun z => ∃ r, z = ((n, turn, g, ()), (r, ())) ∧ Alk n l r) (fun i r hi => by
    obtain ⟨h0, h1, h2⟩ := hi
    have hrl := h2.len
    unfold R10
    refine led_dif (fun q1 => led_dif (fun q2 => ?_) (fun q2 => led_x ⟨_, rfl, h2⟩)) (fun q1 => led_x ⟨_, rfl, h2⟩)
    have hw : IntKind.wrap .i64 (i + 1) = i + 1 := wr (by omega) (by omega)
    obtain ⟨k, hk, ek⟩ := modN (order.getD i.toNat 0) (n := (r.length : Int)) (by omega) (by omega)
    rw [hw]
    simp only [ek, Int.toNat_natCast, List.length_set]
    refine led_need h0 (led_need q2 (led_no (by omega) (led_no (by omega) (led_need (by omega) (led_need hk (led_need h0 (led_need q1 (led_need h0 (led_need q1 (led_need (by omega) (led_need (by omega) (led_need hk (led_need (by omega) ?_)))))))))))))
    exact led_k ⟨_, _, rfl, ⟨by omega, by rw [List.length_set, List.length_set]; omega, h2.swap (by omega) (by omega)⟩, by omega⟩) 0 l ⟨by omega, by omega, ho, rfl, fun _ _ _ => Iff.rfl⟩
  obtain ⟨z, hz, r, rfl, hq⟩ := key
  exact ⟨r, hz, hq⟩
theorem F15_is {n : Int} {turn : List Bool} {g : Option Gr} {l s : List (Int × Int)} (hl : l.length ≤ 9000000) (hs : Alk n l s) : ∃ r, F15 n turn g 0 s = some ((n, g, ()), (r, ())) ∧ Alk n l r := by
  have key := F15_inv (n0 := n) (turn2 := turn) (g11 := g) (fun i r => 0 ≤ i ∧ i ≤ r.length ∧ Alk n l r) (fun i r => l.length - i.toNat) (fun z => ∃ r, z = ((n, g, ()), (r, ())) ∧ Alk n l r) (fun i r hi => by
    obtain ⟨h0, h1, h2⟩ := hi
    have hrl := h2.len
    unfold R15
    refine led_dif (fun q1 => led_dif (fun q2 => ?_) (fun q2 => led_x ⟨_, rfl, h2⟩)) (fun q1 => led_x ⟨_, rfl, h2⟩)
    have hw : IntKind.wrap .i64 (i + 1) = i + 1 := wr (by omega) (by omega)
    rw [hw]
    refine led_need h0 (led_need q2 (led_if (fun q3 => ?_) (fun q3 => led_k ⟨_, _, rfl, ⟨by omega, by omega, h2⟩, by omega⟩)))
    refine led_need h0 (led_need q1 (led_need h0 (led_need q1 (led_need h0 (led_need q1 (led_need (by omega) ?_))))))
    exact led_k ⟨_, _, rfl, ⟨by omega, by rw [List.length_set]; omega, h2.flip (by omega)⟩, by omega⟩) 0 s ⟨by omega, by omega, hs⟩
  obtain ⟨z, hz, r, rfl, hq⟩ := key
  exact ⟨r, hz, hq⟩
theorem F22_is {n : Int} {g : Option Gr} {one : Bool} {l : List (Int × Int)} (hl : l.length ≤ 9000000) (ho : prsOk n l = true) : ∃ r, F22 n g l one 0 l = some ((n, g, one, ()), (r, ())) ∧ prsOk n r = true ∧ r.length ≤ 9000200 ∧ ∀ u v : Nat, u ≠ v → (Sy r u v ↔ Sy l u v) := by
  have key := F22_inv (n0 := n) (g11 := g) (l12 := l) (one16 := one) (fun i r => 0 ≤ i ∧ i ≤ 50 ∧ i ≤ l.length ∧ prsOk n r = true ∧ r.length = l.length + 2 * i.toNat ∧ ∀ u v : Nat, u ≠ v → (Sy r u v ↔ Sy l u v)) (fun i r => 50 - i.toNat)
    (fun z => ∃ r, z = ((n, g, one, ()), (r, ())) ∧ prsOk n r = true ∧ r.length ≤ 9000200 ∧ ∀ u v : Nat, u ≠ v → (Sy r u v ↔ Sy l u v)) (fun i r hi => by
    obtain ⟨h0, h1, h2, h3, h4, h5⟩ := hi
    unfold R22
    refine led_dif (fun q1 => led_dif (fun q2 => ?_) (fun q2 => led_x ⟨_, rfl, h3, by omega, h5⟩)) (fun q1 => led_x ⟨_, rfl, h3, by omega, h5⟩)
    have hw : IntKind.wrap .i64 (i + 1) = i + 1 := wr (by omega) (by omega)
    rw [hw]
    have hm := mem_getD dP l i.toNat (by omega)
    have hok := ok_idx.1 ho i.toNat (by omega)
    generalize hp : l.getD i.toNat dP = p at *
    refine led_need h0 (led_need q1 (led_need h0 (led_need q1 (led_need h0 (led_need q1 (led_need h0 (led_need q1 (led_need (by simp; omega) ?_))))))))
    refine led_k ⟨_, _, rfl, ⟨by omega, by omega, by omega, ?_, by simp; omega, fun u v huv => ?_⟩, by omega⟩
    · rw [prsOk, List.all_append, Bool.and_eq_true]
      refine ⟨h3, ?_⟩
      have e1 : okP n.toNat (p.2, p.1) = true := by rw [okP_flip]; exact hok
      have e2 : okP n.toNat (p.1, p.1) = true := by
        have := okP_iff.1 hok
        exact okP_iff.2 ⟨this.1, this.1⟩
      simp only [List.all_cons, List.all_nil, e1, e2, Bool.and_self]
    · rw [← h5 u v huv]
      constructor
      · rintro ⟨q, hq, k⟩
        rcases List.mem_append.1 hq with hq | hq
        · exact ⟨q, hq, k⟩
        · simp only [List.mem_cons, List.not_mem_nil, or_false] at hq
          rcases hq with rfl | rfl
          · exact (h5 u v huv).2 ⟨p, hm, SyP.flip.1 k⟩
          · exfalso
            simp only [SyP] at k
            omega
      · rintro ⟨q, hq, k⟩
        exact ⟨q, List.mem_append.2 (.inl hq), k⟩) 0 l ⟨by omega, by omega, by omega, ho, by simp, fun _ _ _ => Iff.rfl⟩
  obtain ⟨z, hz, r, rfl, hq⟩ := key
  exact ⟨r, hz, hq⟩
theorem holds (n : Int) (l : List (Int × Int)) (turn : List Bool) (order : List Int) (w0 : (Lit.int .i64 n).wf = true) (w1 : l.length ≤ maxLen ∧ ∀ x ∈ l, (Lit.int .i64 x.1).wf = true ∧ (Lit.int .i64 x.2).wf = true) (w2 : turn.length ≤ maxLen ∧ ∀ x ∈ turn, True) (w3 : order.length ≤ maxLen ∧ ∀ x ∈ order, (Lit.int .i64 x).wf = true) : pre n l turn order = true ∧ fn n l turn order = (true, ()) := by
  refine is_fn _ _ _ _ ?_
  unfold run'
  by_cases hf : fineB n l = true
  · obtain ⟨g1, g2, hG, hGn, hn3, hnn⟩ := fine_graph hf
    generalize hGe : Gr.ofPairs n.toNat l = G at *
    have hE := edges_le G
    have hE2 : G.n * G.n ≤ 3000 * 3000 := Nat.mul_le_mul (by omega) (by omega)
    have hlen : (upP G.pairs).length ≤ 9000000 := by
      rw [upP_length]
      unfold Gr.edges at hE
      omega
    have hok : prsOk n (upP G.pairs) = true := List.all_eq_true.2 (fun p hp => by
      obtain ⟨u, v, h, rfl⟩ := mem_upP.1 hp
      have := ((Gr.mem_pairs hG).1 h).2
      have h1 := hG.rng u v this
      have h2 := hG.rng' this
      exact okP_iff.2 ⟨⟨by simp only; omega, by simp only; omega⟩, by simp only; omega, by simp only; omega⟩)
    have hGG : Gr.ofPairs n.toNat (upP G.pairs) = G := by rw [← hGn]; exact ofPairs_pairs hG
    obtain ⟨r1, e1, A1⟩ := F10_is (turn := turn) (order := order) (g := some G) hlen hok
    obtain ⟨r2, e2, A2⟩ := F15_is (turn := turn) (g := some G) hlen A1
    have hl2 := A2.len
    have G2 : Gr.ofPairs n.toNat r2 = G := (sy_graph A2.sy).trans hGG
    obtain ⟨p2, f2⟩ := graphOf.is (n := n) (l := r2) ⟨by omega, by omega⟩ (by omega) A2.ok
    rw [G2] at f2
    have a3 : alike.pre (some G) (some G) = true := alikePre (by omega) (by omega)
    have a4 : alike.fn (some G) (some G) = (true, ()) := alikeFn rfl
    obtain ⟨r3, e3, k1, k2, k3⟩ := F22_is (n := n) (g := some G) (one := true) (l := r2) (by omega) A2.ok
    have G3 : Gr.ofPairs n.toNat r3 = G := (sy_graph k3).trans G2
    obtain ⟨p3, f3⟩ := graphOf.is (n := n) (l := r3) ⟨by omega, by omega⟩ (by omega) k1
    rw [G3] at f3
    have c1 : PairsO.pre (upP G.pairs) = true := decide_eq_true (by omega)
    have c2 : PairsO.pre r2 = true := decide_eq_true (by omega)
    simp only [first5.pre, first5.fn, fine.pre, fine.fn, hf, g1, g2, pairsPre (G := G) (by omega), Pairs.fn, gr_some, Option.isNone_some, PairsO.fn, c1, c2, e1, e2, e3, p2, f2, p3, f3, a3, a4, if_true, Bool.not_true, Bool.false_eq_true, if_false]
  · have hf' : fineB n l = false := by simpa using hf
    simp [first5.pre, first5.fn, fine.pre, fine.fn, hf']
end GraphEdges
end Go.Proofs.Ythbojpaghbbnnaa.Z
