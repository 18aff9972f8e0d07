/- Plain law: GraphBoth answers true. No condition. -/
import Derived.Test.YthbojpaghbbnnaaWL
import Derived.Test.YthbojpaghbbnnaaWH
import Derived.Test.YthbojpaghbbnnaaHS
namespace Go.Proofs.Ythbojpaghbbnnaa.Z
open Go Go.RowKit
set_option linter.unusedVariables false
set_option linter.unusedSimpArgs false
theorem hasFn {G : Gr} {u v : Nat} (h : G.adj u v = true) : Has.fn (some G) (u : Int) (v : Int) = (true, ()) := by
  simp only [Has.fn, gr_some, Gr.has, Int.toNat_natCast, h, Int.natCast_nonneg, decide_true, Bool.and_self]
theorem nbFn' {G : Gr} (u : Nat) : Neighbours.fn (some G) (u : Int) = (up (G.nb u), ()) := by
  simp only [Neighbours.fn, gr_some, Gr.nbz, Int.natCast_nonneg, if_true, Int.toNat_natCast]
theorem up_get {l : List Nat} {i : Nat} (h : i < l.length) : (up l).getD i 0 = ((l[i] : Nat) : Int) := by
  rw [List.getD_eq_getElem?_getD, up, List.getElem?_map, List.getElem?_eq_getElem h]
  rfl
namespace GraphBoth
theorem F17_is {G : Gr} (hG : G.Ok) (hn : G.n ≤ 3000) {n all : Int} {l : List (Int × Int)} {v : Nat} (hv : v < G.n) : F17 n l (some G) all (v : Int) (up (G.nb v)) 0 = some (Sum.inr ((n, l, some G, all, (v : Int), ()), ())) := by
  have hl : (G.nb v).length ≤ 3000 := Nat.le_trans (Gr.nb_length_le G v) hn
  have hul := up_length (G.nb v)
  have key := F17_inv (n0 := n) (pairs1 := l) (g7 := some G) (all8 := all) (v9 := (v : Int)) (to10 := up (G.nb v)) (fun i => 0 ≤ i ∧ i ≤ (G.nb v).length) (fun i => (G.nb v).length - i.toNat) (fun z => z = Sum.inr ((n, l, some G, all, (v : Int), ()), ())) (fun i hi => by
    obtain ⟨h0, h1⟩ := hi
    unfold R17
    refine led_dif (fun q1 => ?_) (fun q1 => led_x rfl)
    have hlt : i.toNat < (G.nb v).length := by omega
    have e := up_get hlt
    have hadj := (Gr.mem_nb hG).1 (List.getElem_mem hlt)
    have hwn := hG.rng' hadj
    have hne := adj_ne hG hadj
    have hwr : IntKind.wrap .i64 (i + 1) = i + 1 := wr (by omega) (by omega)
    have hwl : 0 < i → IntKind.wrap .i64 (i - 1) = i - 1 := fun _ => wr (by omega) (by omega)
    generalize hw : (G.nb v)[i.toNat] = w at *
    rw [hwr, e]
    have go : Led (fun (R : Type) (k' : V17 → Option R) (kx : X17 → Option R) => k' ((n, l, some G, all, (v : Int), up (G.nb v), i + 1, ()), ())) (fun v' => ∃ i' : Int, v' = ((n, l, some G, all, (v : Int), up (G.nb v), i', ()), ()) ∧ (0 ≤ i' ∧ i' ≤ (G.nb v).length) ∧ (G.nb v).length - i'.toNat < (G.nb v).length - i.toNat) (fun z => z = Sum.inr ((n, l, some G, all, (v : Int), ()), ())) :=
      led_k ⟨_, rfl, ⟨by omega, by omega⟩, by omega⟩
    have hp1 : Has.pre (some G) (v : Int) (w : Int) = true := hasPre (wf_nat (by omega)) (wf_nat (by omega))
    have hp2 : Has.pre (some G) (w : Int) (v : Int) = true := hasPre (wf_nat (by omega)) (wf_nat (by omega))
    refine led_need h0 (led_need q1 (led_need hp1 (led_need h0 (led_need q1 (led_need hp2 ?_)))))
    rw [hasFn hadj, hasFn (show G.adj w v = true by rw [hG.symm]; exact hadj)]
    have last : ¬ (((w : Int) == (v : Int)) = true) := by
      simp only [beq_iff_eq]
      omega
    refine led_yes (by rfl) (led_yes (by rfl) (led_dif (fun q2 => ?_) (fun q2 => ?_)))
    · rw [hwl q2]
      have hlt2 : (i - 1).toNat < (G.nb v).length := by omega
      have e2 := up_get hlt2
      have hs := List.pairwise_iff_getElem.1 (G.nb_sorted v) (i - 1).toNat i.toNat hlt2 hlt (by omega)
      rw [hw] at hs
      rw [e2]
      exact led_need h0 (led_need q1 (led_need (by omega) (led_need (by omega) (led_yes (decide_eq_false (by omega)) (led_need h0 (led_need q1 (led_no last go)))))))
    · exact led_need h0 (led_need q1 (led_no last go))) 0 ⟨by omega, by omega⟩
  obtain ⟨z, hz, hq⟩ := key
  rw [hz, hq]
theorem F10_is {G : Gr} (hG : G.Ok) (hn : G.n ≤ 3000) {n : Int} (hnn : n = (G.n : Int)) {l : List (Int × Int)} : F10 n l (some G) 0 0 = some (Sum.inr ((n, l, some G, (sumdeg G G.n : Int), ()), ())) := by
  have key := F10_inv (n0 := n) (pairs1 := l) (g7 := some G) (fun all v => 0 ≤ v ∧ v ≤ G.n ∧ all = (sumdeg G v.toNat : Int)) (fun _ v => G.n - v.toNat) (fun z => z = Sum.inr ((n, l, some G, (sumdeg G G.n : Int), ()), ())) (fun all v hi => by
    obtain ⟨h0, h1, rfl⟩ := hi
    unfold R10
    refine led_dif (fun q1 => ?_) (fun q1 => led_x ?_)
    · obtain ⟨x, rfl⟩ := Int.eq_ofNat_of_zero_le h0
      have hx : x < G.n := by omega
      have hle := sumdeg_le G x
      have hle2 : x * G.n ≤ 3000 * 3000 := Nat.mul_le_mul (by omega) hn
      have hsu := sumdeg_succ G x
      have hnb := Gr.nb_length_le G x
      have hw : IntKind.wrap .i64 ((x : Int) + 1) = (x : Int) + 1 := wr (by omega) (by omega)
      have hd : Degree.fn (some G) (x : Int) = (((G.nb x).length : Int), ()) := by simp only [Degree.fn, gr_some, Int.natCast_nonneg, if_true, Int.toNat_natCast]
      have hvv : Has.fn (some G) (x : Int) (x : Int) = (false, ()) := by simp only [Has.fn, gr_some, Gr.has, Int.toNat_natCast, hG.irr, Bool.and_false]
      rw [nbFn', hd, hvv]
      simp only [up_length, Int.toNat_natCast]
      have hw2 : IntKind.wrap .i64 ((sumdeg G x : Int) + ((G.nb x).length : Int)) = (sumdeg G (x + 1) : Int) := by rw [wr (by omega) (by omega), hsu]; omega
      refine led_need (by rfl) (led_need (by rfl) (led_yes (by simp) (led_need (hasPre (wf_nat (by omega)) (wf_nat (by omega))) (led_no (by simp) ?_))))
      rw [hw2]
      simp only [F17_is hG hn hx]
      rw [hw]
      exact led_k ⟨_, _, rfl, ⟨by omega, by omega, by rw [show ((x : Int) + 1).toNat = x + 1 by omega]⟩, by omega⟩
    · obtain rfl : v = (G.n : Int) := by omega
      rw [Int.toNat_natCast]) 0 0 ⟨by omega, by omega, rfl⟩
  obtain ⟨z, hz, hq⟩ := key
  rw [hz, hq]
theorem F24_is {n all : Int} {l : List (Int × Int)} (hl : l.length ≤ 20000) (ho : prsOk n l = true) (hn : n.toNat ≤ 3000) : F24 n l (some (Gr.ofPairs n.toNat l)) all 0 = some (Sum.inr ((n, some (Gr.ofPairs n.toNat l), all, ()), ())) := by
  have key := F24_inv (n0 := n) (pairs1 := l) (g7 := some (Gr.ofPairs n.toNat l)) (all8 := all) (fun i => 0 ≤ i ∧ i ≤ l.length) (fun i => l.length - i.toNat) (fun z => z = Sum.inr ((n, some (Gr.ofPairs n.toNat l), all, ()), ())) (fun i hi => by
    obtain ⟨h0, h1⟩ := hi
    unfold R24
    refine led_dif (fun q1 => ?_) (fun q1 => led_x rfl)
    have hm := mem_getD ((0 : Int), (0 : Int)) l i.toNat (by omega)
    have hw : IntKind.wrap .i64 (i + 1) = i + 1 := wr (by omega) (by omega)
    have hok := okP_iff.1 (List.all_eq_true.1 ho _ hm)
    generalize l.getD i.toNat ((0 : Int), (0 : Int)) = p at *
    obtain ⟨a, b⟩ := p
    simp only at hok ⊢
    obtain ⟨⟨a1, a2⟩, b1, b2⟩ := hok
    obtain ⟨x, rfl⟩ := Int.eq_ofNat_of_zero_le a1
    obtain ⟨y, rfl⟩ := Int.eq_ofNat_of_zero_le b1
    rw [hw]
    have go : Led (fun (R : Type) (k' : V24 → Option R) (kx : X24 → Option R) => k' ((n, l, some (Gr.ofPairs n.toNat l), all, i + 1, ()), ())) (fun v' => ∃ i' : Int, v' = ((n, l, some (Gr.ofPairs n.toNat l), all, i', ()), ()) ∧ (0 ≤ i' ∧ i' ≤ l.length) ∧ l.length - i'.toNat < l.length - i.toNat) (fun z => z = Sum.inr ((n, some (Gr.ofPairs n.toNat l), all, ()), ())) :=
      led_k ⟨_, rfl, ⟨by omega, by omega⟩, by omega⟩
    refine led_need h0 (led_need q1 (led_need h0 (led_need q1 (led_if (fun q2 => ?_) (fun q2 => go)))))
    have hne : x ≠ y := by
      simp only [bne_iff_ne, ne_eq] at q2
      omega
    rw [hasFn (ofPairs_adj.2 ⟨hne, _, hm, .inl ⟨rfl, rfl⟩⟩)]
    exact led_need h0 (led_need q1 (led_need h0 (led_need q1 (led_need (hasPre (wf_nat (by omega)) (wf_nat (by omega))) (led_no (by simp) go)))))) 0 ⟨by omega, by omega⟩
  obtain ⟨z, hz, hq⟩ := key
  rw [hz, hq]
theorem F30_is {G : Gr} (hG : G.Ok) (hn : G.n ≤ 3000) {n all : Int} : F30 n (some G) all (upP G.pairs) 0 = some (Sum.inr ((n, some G, all, upP G.pairs, ()), ())) := by
  have hlen : (upP G.pairs).length ≤ 9000000 := by
    rw [upP_length]
    have := edges_le G
    have : G.n * G.n ≤ 3000 * 3000 := Nat.mul_le_mul hn hn
    unfold Gr.edges at *
    omega
  have key := F30_inv (n0 := n) (g7 := some G) (all8 := all) (l15 := upP G.pairs) (fun i => 0 ≤ i ∧ i ≤ (upP G.pairs).length) (fun i => (upP G.pairs).length - i.toNat) (fun z => z = Sum.inr ((n, some G, all, upP G.pairs, ()), ())) (fun i hi => by
    obtain ⟨h0, h1⟩ := hi
    unfold R30
    refine led_dif (fun q1 => ?_) (fun q1 => led_x rfl)
    obtain ⟨u, v, e, huv, hadj⟩ := mem_pairs_get hG h0 q1
    have hw : IntKind.wrap .i64 (i + 1) = i + 1 := wr (by omega) (by omega)
    have hu := hG.rng u v hadj
    have hv := hG.rng' hadj
    rw [e, hw, hasFn hadj]
    exact led_need h0 (led_need q1 (led_need h0 (led_need q1 (led_need (hasPre (wf_nat (by omega)) (wf_nat (by omega))) (led_yes (by rfl) (led_need h0 (led_need q1 (led_need h0 (led_need q1 (led_no (by simp only [decide_eq_true_eq]; omega) (led_k ⟨_, rfl, ⟨by omega, by omega⟩, by omega⟩)))))))))))) 0 ⟨by omega, by omega⟩
  obtain ⟨z, hz, hq⟩ := key
  rw [hz, hq]
theorem holds (n : Int) (l : List (Int × Int)) (w0 : (Lit.int .i64 n).wf = true) (w1 : l.length ≤ maxLen ∧ ∀ x ∈ l, (Lit.int .i64 x.1).wf = true ∧ (Lit.int .i64 x.2).wf = true) : pre n l = true ∧ fn n l = (true, ()) := by
  refine is_fn _ _ ?_
  unfold run'
  by_cases hf : fineB n l = true
  · obtain ⟨g1, g2, hG, hGn, hn3, hnn⟩ := fine_graph hf
    obtain ⟨⟨_, _⟩, hl, ho⟩ := fineB_iff.1 hf
    have hF24 := fun all : Int => F24_is (n := n) (all := all) hl ho hn3
    generalize hGe : Gr.ofPairs n.toNat l = G at *
    have hh := handshake hG
    have ha := arcs_length G
    have hE := edges_le G
    have hE2 : G.n * G.n ≤ 3000 * 3000 := Nat.mul_le_mul (by omega) (by omega)
    have hF10 := F10_is hG (by omega) (n := n) (by omega) (l := l)
    have hF30 := F30_is hG (by omega) (n := n) (all := (sumdeg G G.n : Int))
    have hnG : n = (G.n : Int) := by omega
    have hap : Arcs.pre (some G) 0 n = true := by
      have hwn : wf n = true := by rw [hnG]; exact wf_nat (by omega)
      show (true && (decide ((gr (some G)).n ≤ 4096) && (wf 0 && wf n))) = true
      rw [hwn, decide_eq_true (show (gr (some G)).n ≤ 4096 by rw [gr_some]; omega)]
      rfl
    have hw : IntKind.wrap .i64 ((2 : Int) * (G.edges : Int)) = (sumdeg G G.n : Int) := by rw [wr (by omega) (by omega), hh]; omega
    have hal : (upP (G.arcs 0 n)).length = sumdeg G G.n := by rw [upP_length, hnG]; exact ha
    have hpl : (upP G.pairs).length = G.edges := by rw [upP_length]; rfl
    simp only [first5.pre, first5.fn, fine.pre, fine.fn, hf, g1, g2, hF10, hF24, pairsPre (G := G) (by omega), Pairs.fn, gr_some, hF30, Edges.pre, Edges.fn, Option.isSome_some, Option.isNone_some, hap, Arcs.fn, hal, hpl, hw, beq_self_eq_true, if_true, Bool.not_true, Bool.false_eq_true, if_false]
  · have hf' : fineB n l = false := by simpa using hf
    simp [first5.pre, first5.fn, fine.pre, fine.fn, hf']
end GraphBoth
end Go.Proofs.Ythbojpaghbbnnaa.Z
