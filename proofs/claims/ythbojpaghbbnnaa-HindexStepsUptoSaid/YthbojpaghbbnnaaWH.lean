/- Plain laws: graphOf makes the graph of the pairs; GraphChange answers true. No condition. -/
import Derived.Test.YthbojpaghbbnnaaWF
import Derived.Test.YthbojpaghbbnnaaGM
import Derived.Test.YthbojpaghbbnnaaZO
namespace Go.Proofs.Ythbojpaghbbnnaa.Z
open Go Go.RowKit
set_option linter.unusedVariables false
set_option linter.unusedSimpArgs false
theorem fineB_iff {n : Int} {l : List (Int × Int)} : fineB n l = true ↔ (0 ≤ n ∧ n ≤ 3000) ∧ l.length ≤ 20000 ∧ prsOk n l = true := by
  simp only [fineB, prsOk, Bool.and_eq_true, decide_eq_true_eq]
  constructor
  · rintro ⟨⟨⟨a, b⟩, c⟩, d⟩; exact ⟨⟨a, b⟩, c, d⟩
  · rintro ⟨⟨a, b⟩, c, d⟩; exact ⟨⟨⟨a, b⟩, c⟩, d⟩
theorem graphOf.is {n : Int} {l : List (Int × Int)} (hn : 0 ≤ n ∧ n ≤ 16777216) (hl : l.length * 16 ≤ 140737488351232) (ho : prsOk n l = true) : graphOf.pre n l = true ∧ graphOf.fn n l = (some (Gr.ofPairs n.toNat l), ()) := by
  refine graphOf.is_fn _ _ ?_
  unfold graphOf.run'
  have h1 : PairsO.pre l = true := decide_eq_true hl
  have h2 : Make.fn n l = (some (Gr.ofPairs n.toNat l), 0, ()) := by
    unfold Make.fn
    rw [if_pos (by simp [inN, hn.1, hn.2]), if_pos ho]
  simp only [h1, PairsO.fn, Make.pre, h2, num5.pre, num5.fn, if_true]
  simp
theorem fine_graph {n : Int} {l : List (Int × Int)} (hf : fineB n l = true) : graphOf.pre n l = true ∧ graphOf.fn n l = (some (Gr.ofPairs n.toNat l), ()) ∧ (Gr.ofPairs n.toNat l).Ok ∧ (Gr.ofPairs n.toNat l).n = n.toNat ∧ n.toNat ≤ 3000 ∧ ((n.toNat : Nat) : Int) = n := by
  obtain ⟨⟨h1, h2⟩, h3, h4⟩ := fineB_iff.1 hf
  obtain ⟨g1, g2⟩ := graphOf.is (n := n) (l := l) ⟨h1, by omega⟩ (by omega) h4
  refine ⟨g1, g2, ofPairs_ok (by omega) (fun p hp => List.all_eq_true.1 h4 p hp), rfl, by omega, by omega⟩
theorem mem_pairs_get {G : Gr} (hG : G.Ok) {i : Int} (h0 : 0 ≤ i) (h1 : i < ((upP G.pairs).length : Int)) : ∃ u v : Nat, (upP G.pairs).getD i.toNat ((0 : Int), (0 : Int)) = ((u : Int), (v : Int)) ∧ u < v ∧ G.adj u v = true := by
  have := mem_getD ((0 : Int), (0 : Int)) (upP G.pairs) i.toNat (by omega)
  obtain ⟨u, v, h, e⟩ := mem_upP.1 this
  exact ⟨u, v, e, (Gr.mem_pairs hG).1 h⟩
theorem wf_nat {u : Nat} (h : u < 16777217) : wf (u : Int) = true := wf_iff.2 ⟨by omega, by omega⟩
theorem hasPre {G : Gr} {u v : Int} (hu : wf u = true) (hv : wf v = true) : Has.pre (some G) u v = true := by
  simp only [Has.pre, hu, hv]; rfl
theorem pairsPre {G : Gr} (h : G.n ≤ 4096) : Pairs.pre (some G) = true := by
  show (true && decide ((gr (some G)).n ≤ 4096)) = true
  rw [Bool.true_and]
  exact decide_eq_true h
theorem alikePre {G H : Gr} (h1 : G.n ≤ 4096) (h2 : H.n ≤ 4096) : alike.pre (some G) (some H) = true := by
  show ((true && decide ((gr (some G)).n ≤ 4096)) && (true && decide ((gr (some H)).n ≤ 4096))) = true
  rw [Bool.true_and, Bool.true_and, decide_eq_true (show (gr (some G)).n ≤ 4096 from h1), decide_eq_true (show (gr (some H)).n ≤ 4096 from h2)]
  rfl
theorem alikeFn {G H : Gr} (h : G = H) : alike.fn (some G) (some H) = (true, ()) := by
  subst h
  simp only [alike.fn, gr_some, like_self]
/-- A number brought among n. -/
theorem modN (u : Int) {n : Int} (h0 : 0 < n) (h1 : n ≤ 4611686018427387904) : ∃ a : Nat, (a : Int) < n ∧ Int.tmod (IntKind.wrap .i64 (Int.tmod u n + n)) n = (a : Int) := by
  have g1 := Int.tmod_lt_of_pos u h0
  have g2 : -n < Int.tmod u n := by
    have := Int.tmod_lt_of_pos (-u) h0
    rw [Int.neg_tmod] at this
    omega
  rw [wr (by omega) (by omega)]
  have g3 := Int.tmod_lt_of_pos (Int.tmod u n + n) h0
  have g4 := Int.tmod_nonneg n (show 0 ≤ Int.tmod u n + n by omega)
  exact ⟨(Int.tmod (Int.tmod u n + n) n).toNat, by omega, by omega⟩
theorem changed_fn {G : Gr} {l : List (Int × Int × Bool)} (h : chgOk G l = true) : Changed.fn (some G) l = (some (G.changed (l.map toC)), 0, ()) := by
  unfold Changed.fn
  rw [gr_some, if_pos h]
theorem set_fill {α : Type} (x d : α) (n i : Nat) (h : i < n) : (List.replicate i x ++ List.replicate (n - i) d).set i x = List.replicate (i + 1) x ++ List.replicate (n - (i + 1)) d := by
  obtain ⟨m, hm⟩ : ∃ m, n - i = m + 1 := ⟨n - i - 1, by omega⟩
  rw [hm, show n - (i + 1) = m by omega, List.replicate_succ, List.replicate_succ', List.set_append_right _ _ (by simp)]
  simp
namespace GraphChange
theorem F23_is {G : Gr} (hG : G.Ok) (hn : G.n ≤ 3000) {c : Int × Int × Bool} (hc : okP G.n (toC c).1 = true) : F23 (some (G.chg (toC c))) (upP G.pairs) 0 c.1 c.2.1 c.2.2 = some (Sum.inr ((), ())) := by
  have hlen : (upP G.pairs).length ≤ 9000000 := by
    rw [upP_length]
    have := edges_le G
    have : G.n * G.n ≤ 3000 * 3000 := Nat.mul_le_mul hn hn
    unfold Gr.edges at *
    omega
  have key := F23_inv (h10 := some (G.chg (toC c))) (l14 := upP G.pairs) (c0x0 := c.1) (c0x1 := c.2.1) (c0x2 := c.2.2) (fun i => 0 ≤ i ∧ i ≤ (upP G.pairs).length) (fun i => (upP G.pairs).length - i.toNat) (fun z => z = Sum.inr ((), ())) (fun i hi => by
    obtain ⟨h0, h1⟩ := hi
    unfold R23
    refine led_dif (fun hlt => ?_) (fun hge => led_x rfl)
    obtain ⟨u, v, e, huv, hadj⟩ := mem_pairs_get hG h0 hlt
    have hw : IntKind.wrap .i64 (i + 1) = i + 1 := wr (by omega) (by omega)
    have hu := hG.rng u v hadj
    have hv := hG.rng' hadj
    rw [e, hw]
    have go : Led (fun (R : Type) (k : V23 → Option R) (kx : X23 → Option R) => k ((some (G.chg (toC c)), upP G.pairs, i + 1, ()), ((c.1, c.2.1, c.2.2, ()), ()))) (fun v => ∃ i' : Int, v = ((some (G.chg (toC c)), upP G.pairs, i', ()), ((c.1, c.2.1, c.2.2, ()), ())) ∧ (0 ≤ i' ∧ i' ≤ (upP G.pairs).length) ∧ (upP G.pairs).length - i'.toNat < (upP G.pairs).length - i.toNat) (fun z => z = Sum.inr ((), ())) :=
      led_k ⟨_, rfl, ⟨by omega, by omega⟩, by omega⟩
    have hp : Has.pre (some (G.chg (toC c))) (u : Int) (v : Int) = true := hasPre (wf_nat (by omega)) (wf_nat (by omega))
    have step : ¬ ((u : Int) = min c.1 c.2.1 ∧ (v : Int) = max c.1 c.2.1) → Has.fn (some (G.chg (toC c))) (u : Int) (v : Int) = (true, ()) := fun hne => by
      have := chg_rest hG (c := toC c) hadj hne huv
      simp only [Has.fn, gr_some, this]
    refine led_need h0 (led_need hlt (led_if (fun c1 => ?_) (fun c1 => ?_)))
    · refine led_need h0 (led_need hlt (led_if (fun c2 => ?_) (fun c2 => go)))
      refine led_need h0 (led_need hlt (led_need h0 (led_need hlt (led_need hp ?_))))
      rw [step (fun ⟨q1, q2⟩ => by
        have c2' : ¬ (v : Int) = if c.2.1 > c.1 then c.2.1 else c.1 := by simpa using c2
        apply c2'
        split <;> omega)]
      exact led_no (by simp) go
    · refine led_need h0 (led_need hlt (led_need h0 (led_need hlt (led_need hp ?_))))
      rw [step (fun ⟨q1, q2⟩ => by
        have c1' : ¬ (u : Int) = if c.2.1 < c.1 then c.2.1 else c.1 := by simpa using c1
        apply c1'
        split <;> omega)]
      exact led_no (by simp) go) 0 ⟨by omega, by omega⟩
  obtain ⟨z, hz, hq⟩ := key
  rw [hz, hq]
theorem holds (n : Int) (l : List (Int × Int)) (c : Int × Int × Bool) (w0 : (Lit.int .i64 n).wf = true) (w1 : l.length ≤ maxLen ∧ ∀ x ∈ l, (Lit.int .i64 x.1).wf = true ∧ (Lit.int .i64 x.2).wf = true) (w2 : (Lit.int .i64 c.1).wf = true ∧ (Lit.int .i64 c.2.1).wf = true ∧ True) : pre n l c = true ∧ fn n l c = (true, ()) := by
  refine is_fn _ _ _ ?_
  unfold run'
  have hU : wf c.1 = true := wf_iff.2 (lit_wf w2.1)
  have hV : wf c.2.1 = true := wf_iff.2 (lit_wf w2.2.1)
  by_cases hf : fineB n l = true
  · obtain ⟨g1, g2, hG, hGn, hn3, hnn⟩ := fine_graph hf
    generalize hGe : Gr.ofPairs n.toNat l = G at *
    have hE := edges_le G
    have hE2 : G.n * G.n ≤ 3000 * 3000 := Nat.mul_le_mul (by omega) (by omega)
    have hce : (c.1, c.2.1, c.2.2) = c := rfl
    simp only [first5.pre, first5.fn, fine.pre, fine.fn, hf, g1, g2, Changed.pre, Option.isSome_some, if_true, Bool.not_true, Bool.false_eq_true, if_false, Option.isNone_some, num5.pre, num5.fn, hce]
    by_cases hc : okP G.n (toC c).1 = true
    · have h' := okP_iff.1 hc
      simp only [toC] at h'
      have e1 : decide (c.1 < 0) = false := decide_eq_false (by omega)
      have e2 : decide (c.1 ≥ n) = false := decide_eq_false (by omega)
      have e3 : decide (c.2.1 < 0) = false := decide_eq_false (by omega)
      have e4 : decide (c.2.1 ≥ n) = false := decide_eq_false (by omega)
      have hch : Changed.fn (some G) [c] = (some (G.chg (toC c)), 0, ()) := by
        unfold Changed.fn
        rw [if_pos (by simp only [chgOk, List.all_cons, List.all_nil, gr_some, hc, Bool.and_self])]
        rfl
      have hF := F23_is hG (by omega) hc
      have hh := chg_has hG hc
      have hed := chg_edges hG hc
      have hpos : G.has c.1 c.2.1 = true → 0 < G.edges := fun h => by
        simp only [Gr.has, Bool.and_eq_true] at h
        exact edges_pos hG h.2
      simp only [toC] at hh hed
      have hp1 := hasPre (G := G) hU hV
      have hp2 := hasPre (G := G.chg (toC c)) hU hV
      have hpp : Pairs.pre (some G) = true := pairsPre (by omega)
      simp only [toC] at hF hp2 hch
      simp only [e1, e2, e3, e4, hch, Option.isNone_some, hp1, hp2, hpp, Edges.pre, Edges.fn, Has.fn, Pairs.fn, gr_some, Option.isSome_some, hh, hed, hF, if_true]
      by_cases hUV : c.1 = c.2.1
      · simp [hUV]
      · by_cases hwas : G.has c.1 c.2.1 = true
        · have hp := hpos hwas
          by_cases hgone : c.2.2 = true
          · have hw : IntKind.wrap .i64 ((G.edges : Int) - 1) = ((G.edges - 1 : Nat) : Int) := by rw [wr (by omega) (by omega)]; omega
            simp [hUV, hwas, hgone, hw]
          · have hgone' : c.2.2 = false := by simpa using hgone
            simp [hUV, hwas, hgone']
        · have hwas' : G.has c.1 c.2.1 = false := by simpa using hwas
          by_cases hgone : c.2.2 = true
          · simp [hUV, hwas', hgone]
          · have hgone' : c.2.2 = false := by simpa using hgone
            have hw : IntKind.wrap .i64 ((G.edges : Int) + 1) = ((G.edges + 1 : Nat) : Int) := by rw [wr (by omega) (by omega)]; omega
            simp [hUV, hwas', hgone', hw]
    · have hch : Changed.fn (some G) [c] = (none, 42, ()) := by
        unfold Changed.fn
        rw [if_neg (by simp only [chgOk, List.all_cons, List.all_nil, gr_some, Bool.and_true]; exact hc)]
      have hno : c.1 < 0 ∨ c.1 ≥ n ∨ c.2.1 < 0 ∨ c.2.1 ≥ n := by
        rcases Int.lt_or_le c.1 0 with q | q
        · exact .inl q
        · rcases Int.lt_or_le c.1 n with q1 | q1
          · rcases Int.lt_or_le c.2.1 0 with q2 | q2
            · exact .inr (.inr (.inl q2))
            · rcases Int.lt_or_le c.2.1 n with q3 | q3
              · exact absurd (okP_iff.2 ⟨⟨q, by simp only [toC]; omega⟩, q2, by simp only [toC]; omega⟩) hc
              · exact .inr (.inr (.inr q3))
          · exact .inr (.inl q1)
      simp only [hch, Option.isNone_none]
      by_cases q1 : c.1 < 0
      · simp [q1]
      · by_cases q2 : c.1 ≥ n
        · simp [q1, q2]
        · by_cases q3 : c.2.1 < 0
          · simp [q1, q2, q3]
          · have q4 : c.2.1 ≥ n := by omega
            simp [q1, q2, q3, q4]
  · have hf' : fineB n l = false := by simpa using hf
    simp [first5.pre, first5.fn, fine.pre, fine.fn, hf']
end GraphChange
end Go.Proofs.Ythbojpaghbbnnaa.Z
