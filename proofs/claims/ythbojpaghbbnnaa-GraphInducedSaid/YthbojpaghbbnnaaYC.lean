/- Plain law: the document's graph (package pithref5) tells what a simple graph is. No condition. -/
import Derived.Test.YthbojpaghbbnnaaYA
import Derived.Test.YthbojpaghbbnnaaGM
import Derived.Test.YthbojpaghbbnnaaHS
namespace Go.Proofs.Ythbojpaghbbnnaa.Z
open Go Go.RowKit
set_option linter.unusedVariables false
set_option linter.unusedSimpArgs false
abbrev Srt (l : List Int) : Prop := l.Pairwise (· < ·)
theorem srt_ext : ∀ {a b : List Int}, Srt a → Srt b → (∀ x, x ∈ a ↔ x ∈ b) → a = b
  | [], [], _, _, _ => rfl
  | [], y :: b, _, _, h => absurd ((h y).2 (by simp)) (by simp)
  | x :: a, [], _, _, h => absurd ((h x).1 (by simp)) (by simp)
  | x :: a, y :: b, ha, hb, h => by
    obtain ⟨ha1, ha2⟩ := List.pairwise_cons.1 ha
    obtain ⟨hb1, hb2⟩ := List.pairwise_cons.1 hb
    have hxy : x = y := by
      rcases List.mem_cons.1 ((h x).1 (by simp)) with e | h1
      · exact e
      · rcases List.mem_cons.1 ((h y).2 (by simp)) with e | h2
        · exact e.symm
        · have := ha1 y h2
          have := hb1 x h1
          omega
    subst hxy
    rw [srt_ext ha2 hb2 (fun z => ?_)]
    constructor
    · intro hz
      rcases List.mem_cons.1 ((h z).1 (List.mem_cons_of_mem _ hz)) with e | h1
      · have := ha1 z hz; omega
      · exact h1
    · intro hz
      rcases List.mem_cons.1 ((h z).2 (List.mem_cons_of_mem _ hz)) with e | h1
      · have := hb1 z hz; omega
      · exact h1
theorem srt_getD {l : List Int} (h : Srt l) {i j : Nat} (hij : i < j) (hj : j < l.length) : l.getD i 0 < l.getD j 0 := by
  have := List.pairwise_iff_getElem.1 h i j (by omega) hj hij
  simpa [List.getD_eq_getElem?_getD, List.getElem?_eq_getElem, hj, show i < l.length by omega] using this
theorem mid_is {lo hi : Int} (h0 : 0 ≤ lo) (h1 : lo < hi) (h2 : hi ≤ 2199023255552) : IntKind.wrap .i64 (Int.tdiv (IntKind.wrap .i64 (lo + hi)) 2) = (lo + hi) / 2 := by
  rw [wr (n := lo + hi) (by omega) (by omega), Int.tdiv_eq_ediv_of_nonneg (by omega), wr (by omega) (by omega)]
theorem at5.is {l : List Int} {u : Int} (hl : l.length ≤ 1099511627776) (hs : Srt l) : at5.pre l u = true ∧ ∃ k : Nat, at5.fn l u = ((k : Int), ()) ∧ k ≤ l.length ∧ (∀ i, i < k → l.getD i 0 < u) ∧ ∀ i, k ≤ i → i < l.length → u ≤ l.getD i 0 := by
  have key := at5.F3_inv (l0 := l) (u1 := u) (fun lo hi => 0 ≤ lo ∧ lo ≤ hi ∧ hi ≤ l.length ∧ (∀ i, i < lo.toNat → l.getD i 0 < u) ∧ ∀ i, hi.toNat ≤ i → i < l.length → u ≤ l.getD i 0) (fun lo hi => (hi - lo).toNat)
    (fun z => ∃ k : Nat, z = (((k : Int), ()), ()) ∧ k ≤ l.length ∧ (∀ i, i < k → l.getD i 0 < u) ∧ ∀ i, k ≤ i → i < l.length → u ≤ l.getD i 0) (fun lo hi hi' => by
      obtain ⟨h0, h1, h2, h3, h4⟩ := hi'
      unfold at5.R3
      refine led_dif (fun q1 => ?_) (fun q1 => led_x ⟨lo.toNat, by rw [Int.toNat_of_nonneg h0], by omega, h3, fun i h5 h6 => h4 i (by omega) h6⟩)
      simp only [mid_is h0 q1 (by omega)]
      have hw : IntKind.wrap .i64 ((lo + hi) / 2 + 1) = (lo + hi) / 2 + 1 := wr (by omega) (by omega)
      simp only [hw]
      refine led_need (by omega) (led_need (by omega) (led_dif (fun q2 => led_k ⟨_, _, rfl, ⟨by omega, by omega, h2, fun i h5 => ?_, h4⟩, by omega⟩) (fun q2 => led_k ⟨_, _, rfl, ⟨h0, by omega, by omega, h3, fun i h5 h6 => ?_⟩, by omega⟩)))
      · rcases Nat.lt_or_ge i ((lo + hi) / 2).toNat with q | q
        · have := srt_getD hs q (by omega); omega
        · have : i = ((lo + hi) / 2).toNat := by omega
          rw [this]; exact q2
      · rcases Nat.lt_or_ge ((lo + hi) / 2).toNat i with q | q
        · have := srt_getD hs q h6; omega
        · have : i = ((lo + hi) / 2).toNat := by omega
          rw [this]; omega) 0 l.length ⟨by omega, by omega, by omega, fun i h => by omega, fun i h h' => by omega⟩
  obtain ⟨z, hz, k, hq, h1, h2, h3⟩ := key
  have := at5.is_fn l u (x := ((k : Int), ())) (by unfold at5.run'; rw [hz, hq])
  exact ⟨this.1, k, this.2, h1, h2, h3⟩
theorem at_mem {l : List Int} {u : Int} {k : Nat} (hs : Srt l) (hk : k ≤ l.length) (h1 : ∀ i, i < k → l.getD i 0 < u) (h2 : ∀ i, k ≤ i → i < l.length → u ≤ l.getD i 0) : u ∈ l ↔ k < l.length ∧ l.getD k 0 = u := by
  constructor
  · intro h
    obtain ⟨j, hj, e⟩ := (mem_idx 0).1 h
    rcases Nat.lt_trichotomy j k with q | q | q
    · have := h1 j q; omega
    · subst q; exact ⟨hj, e⟩
    · have := srt_getD hs q hj
      have := h2 k (Nat.le_refl _) (by omega)
      omega
  · rintro ⟨h, e⟩
    exact (mem_idx 0).2 ⟨k, h, e⟩
theorem stands5.is {l : List Int} {u : Int} (hl : l.length ≤ 1099511627776) (hs : Srt l) : stands5.pre l u = true ∧ stands5.fn l u = (decide (u ∈ l), ()) := by
  obtain ⟨a1, k, a2, a3, a4, a5⟩ := at5.is (u := u) hl hs
  refine stands5.is_fn _ _ ?_
  unfold stands5.run'
  have hm := at_mem hs a3 a4 a5
  simp only [a1, a2, if_true, Int.toNat_natCast]
  by_cases h : (k : Int) < (l.length : Int)
  · have hd : decide ((k : Int) < (l.length : Int)) = true := decide_eq_true h
    have h0 : (0 : Int) ≤ (k : Int) := by omega
    simp only [h, h0, decide_true, if_true]
    congr 2
    rw [Bool.eq_iff_iff, beq_iff_eq, decide_eq_true_eq, hm]
    exact ⟨fun e => ⟨by omega, e⟩, fun e => e.2⟩
  · have hd : decide ((k : Int) < (l.length : Int)) = false := decide_eq_false h
    have : u ∉ l := fun q => by have := (hm.1 q).1; omega
    simp only [hd, if_false, Bool.false_eq_true, decide_eq_false this]
theorem with5.is {l : List Int} {u : Int} (hl : l.length ≤ 1099511627776) (hs : Srt l) : with5.pre l u = true ∧ ∃ m, with5.fn l u = (m, ()) ∧ Srt m ∧ ∀ x, x ∈ m ↔ x = u ∨ x ∈ l := by
  obtain ⟨a1, k, a2, a3, a4, a5⟩ := at5.is (u := u) hl hs
  have hm := at_mem hs a3 a4 a5
  have h0 : (0 : Int) ≤ (k : Int) := by omega
  have hkl : (k : Int) ≤ (l.length : Int) := by omega
  have hw : IntKind.wrap .i64 ((l.length : Int) + 1) = (l.length : Int) + 1 := wr (by omega) (by omega)
  have b1 : (0 : Int) ≤ (l.length : Int) + 1 := by omega
  have b2 : ((l.length : Int) + 1).toNat * 8 ≤ 140737488355328 := by omega
  have b3 : (0 + (List.take k l).length) * 8 ≤ 140737488355328 := by rw [List.length_take]; omega
  have b4 : (([] ++ List.take k l).length + [u].length) * 8 ≤ 140737488355328 := by simp; omega
  have b5 : (([] ++ List.take k l ++ [u]).length + (List.drop k l).length) * 8 ≤ 140737488355328 := by simp; omega
  by_cases h : u ∈ l
  · obtain ⟨c1, c2⟩ := hm.1 h
    have := with5.is_fn l u (x := (l, ())) (by
      unfold with5.run'
      have hd : decide ((k : Int) < (l.length : Int)) = true := decide_eq_true (by omega)
      have hlt : (k : Int) < (l.length : Int) := by omega
      have he : (l.getD k 0 == u) = true := by simpa using c2
      simp only [a1, a2, if_true, Int.toNat_natCast, decide_true, h0, hlt, he])
    exact ⟨this.1, l, this.2, hs, fun x => ⟨.inr, fun q => q.elim (fun e => e ▸ h) id⟩⟩
  · have := with5.is_fn l u (x := ([] ++ List.take k l ++ [u] ++ List.drop k l, ())) (by
      unfold with5.run'
      by_cases q : (k : Int) < (l.length : Int)
      · have hd : decide ((k : Int) < (l.length : Int)) = true := decide_eq_true q
        have he : (l.getD k 0 == u) = false := by
          rw [beq_eq_false_iff_ne]
          exact fun e => h (hm.2 ⟨by omega, e⟩)
        simp only [a1, a2, if_true, Int.toNat_natCast, decide_true, h0, q, he, Bool.false_eq_true, if_false, hw, b1, b2, b3, b4, b5, hkl]
      · have hd : decide ((k : Int) < (l.length : Int)) = false := decide_eq_false q
        simp only [a1, a2, if_true, Int.toNat_natCast, hd, h0, Bool.false_eq_true, if_false, hw, b1, b2, b3, b4, b5, hkl])
    refine ⟨this.1, _, this.2, ?_, fun x => ?_⟩
    · rw [List.nil_append, List.append_assoc, Srt, List.pairwise_append]
      refine ⟨hs.sublist (List.take_sublist _ _), ?_, fun x hx y hy => ?_⟩
      · rw [List.singleton_append, List.pairwise_cons]
        refine ⟨fun y hy => ?_, hs.sublist (List.drop_sublist _ _)⟩
        obtain ⟨j, hj, rfl⟩ := (mem_idx 0).1 hy
        rw [List.length_drop] at hj
        have e : (List.drop k l).getD j 0 = l.getD (k + j) 0 := by simp [List.getD_eq_getElem?_getD, List.getElem?_drop]
        rw [e]
        have g := a5 (k + j) (by omega) (by omega)
        rcases Int.lt_or_le u (l.getD (k + j) 0) with g2 | g2
        · exact g2
        · exact absurd ((mem_idx 0).2 ⟨k + j, by omega, by omega⟩) h
      · obtain ⟨i, hi, rfl⟩ := (mem_idx 0).1 hx
        rw [List.length_take] at hi
        have e : (List.take k l).getD i 0 = l.getD i 0 := by simp [List.getD_eq_getElem?_getD, List.getElem?_take, show i < k by omega]
        rw [e]
        have g := a4 i (by omega)
        rw [List.singleton_append, List.mem_cons] at hy
        rcases hy with rfl | hy
        · exact g
        · obtain ⟨j, hj, rfl⟩ := (mem_idx 0).1 hy
          rw [List.length_drop] at hj
          have e : (List.drop k l).getD j 0 = l.getD (k + j) 0 := by simp [List.getD_eq_getElem?_getD, List.getElem?_drop]
          rw [e]
          have := a5 (k + j) (by omega) (by omega)
          omega
    · rw [List.nil_append, List.append_assoc, List.mem_append, List.singleton_append, List.mem_cons]
      conv => rhs; rw [← List.take_append_drop k l, List.mem_append]
      constructor
      · rintro (a | a | a)
        · exact .inr (.inl a)
        · exact .inl a
        · exact .inr (.inr a)
      · rintro (a | a | a)
        · exact .inr (.inl a)
        · exact .inl a
        · exact .inr (.inr a)
theorem wout5.is {l : List Int} {u : Int} (hl : l.length ≤ 1099511627776) : wout5.pre l u = true ∧ wout5.fn l u = (l.filter (fun x => x != u), ()) := by
  have key := wout5.F3_inv (l0 := l) (u1 := u) (fun i r => 0 ≤ i ∧ i ≤ l.length ∧ r = (l.take i.toNat).filter (fun x => x != u)) (fun i _ => l.length - i.toNat)
    (fun z => z = ((), (l.filter (fun x => x != u), ()))) (fun i r hi => by
      obtain ⟨h0, h1, rfl⟩ := hi
      obtain ⟨k, rfl⟩ := Int.eq_ofNat_of_zero_le h0
      unfold wout5.R3
      simp only [Int.toNat_natCast]
      refine led_dif (fun q1 => ?_) (fun q1 => led_x (by rw [take_all (by omega)]))
      have hk : k < l.length := by omega
      have hw : IntKind.wrap .i64 ((k : Int) + 1) = (k : Int) + 1 := wr (by omega) (by omega)
      have e := take_snoc 0 l k hk
      have hi1 : ((k : Int) + 1).toNat = k + 1 := by omega
      have hf : ((l.take k).filter (fun x => x != u)).length ≤ k := Nat.le_trans (List.length_filter_le _ _) (by rw [List.length_take]; omega)
      have room : (((l.take k).filter (fun x => x != u)).length + [l.getD k 0].length) * 8 ≤ 140737488355328 := by simp only [List.length_singleton]; omega
      rw [hw]
      refine led_need h0 (led_need q1 (led_if (fun q2 => led_need h0 (led_need q1 (led_need room (led_k ⟨_, _, rfl, ⟨by omega, by omega, ?_⟩, by omega⟩)))) (fun q2 => led_k ⟨_, _, rfl, ⟨by omega, by omega, ?_⟩, by omega⟩)))
      · rw [hi1, e, List.filter_append, List.filter_cons, if_pos q2]; rfl
      · rw [hi1, e, List.filter_append, List.filter_cons, if_neg q2]; simp) 0 [] ⟨by omega, by omega, by simp⟩
  obtain ⟨z, hz, hq⟩ := key
  exact wout5.is_fn l u (by unfold wout5.run'; rw [hz, hq])
/-! ### Rows -/
def rowsOf (G : Gr) : List (List Int) := (List.range G.n).map (fun u => up (G.nb u))
theorem rowsOf_len (G : Gr) : (rowsOf G).length = G.n := by simp [rowsOf]
theorem rowsOf_getD {G : Gr} (hG : G.Ok) (u : Nat) : (rowsOf G).getD u [] = up (G.nb u) := by
  rcases Nat.lt_or_ge u G.n with h | h
  · simp [rowsOf, List.getD, h]
  · rw [Gr.nb_out hG h]
    simp [rowsOf, List.getD, List.getElem?_eq_none, h, up]
theorem up_srt (G : Gr) (u : Nat) : Srt (up (G.nb u)) := by
  unfold up Srt
  rw [List.pairwise_map]
  exact (G.nb_sorted u).imp (fun h => by omega)
theorem mem_up' {G : Gr} (hG : G.Ok) {u : Nat} {x : Int} : x ∈ up (G.nb u) ↔ ∃ v : Nat, x = (v : Int) ∧ G.adj u v = true := by
  unfold up
  simp only [List.mem_map]
  constructor
  · rintro ⟨v, hv, rfl⟩; exact ⟨v, rfl, (Gr.mem_nb hG).1 hv⟩
  · rintro ⟨v, rfl, hv⟩; exact ⟨v, (Gr.mem_nb hG).2 hv, rfl⟩
theorem up_len_le (G : Gr) (u : Nat) : (up (G.nb u)).length ≤ G.n := by rw [up_length]; exact G.nb_length_le u
theorem rows_ext {L : List (List Int)} {G : Gr} (hG : G.Ok) (hl : L.length = G.n) (h : ∀ u, u < G.n → Srt (L.getD u []) ∧ ∀ x, x ∈ L.getD u [] ↔ ∃ v : Nat, x = (v : Int) ∧ G.adj u v = true) : L = rowsOf G := by
  refine List.ext_getElem (by rw [hl, rowsOf_len]) (fun i h1 h2 => ?_)
  obtain ⟨a, b⟩ := h i (by omega)
  have e1 : L.getD i [] = L[i] := by simp [List.getD_eq_getElem?_getD, List.getElem?_eq_getElem, h1]
  have e2 : (rowsOf G).getD i [] = (rowsOf G)[i] := by simp [List.getD_eq_getElem?_getD, List.getElem?_eq_getElem, h2]
  rw [← e1, ← e2, rowsOf_getD hG]
  exact srt_ext a (up_srt G i) (fun x => (b x).trans (mem_up' hG).symm)
theorem chg_self (G : Gr) (u : Int) (g : Bool) : G.chg ((u, u), g) = G := Gr.ext' rfl (fun a b => by
  rw [chg_adj]
  constructor
  · rintro (⟨h1, h2 | h2, _⟩ | ⟨_, h⟩)
    · obtain ⟨e1, e2⟩ := h2; exact absurd (show a = b by simp only at e1 e2; omega) h1
    · obtain ⟨e1, e2⟩ := h2; exact absurd (show a = b by simp only at e1 e2; omega) h1
    · exact h
  · intro h
    refine .inr ⟨?_, h⟩
    rintro ⟨h1, h2 | h2⟩
    · obtain ⟨e1, e2⟩ := h2; exact h1 (by simp only at e1 e2; omega)
    · obtain ⟨e1, e2⟩ := h2; exact h1 (by simp only at e1 e2; omega))
theorem joins5.is {G : Gr} (hG : G.Ok) {u v : Int} (h : okP G.n (u, v) = true) : joins5.pre (rowsOf G) u v = true ∧ joins5.fn (rowsOf G) u v = ((rowsOf (G.chg ((u, v), false)), false), ()) := by
  obtain ⟨⟨hu0, hu1⟩, hv0, hv1⟩ := okP_iff.1 h
  simp only at hu0 hu1 hv0 hv1
  refine joins5.is_fn _ _ _ ?_
  unfold joins5.run'
  by_cases huv : u = v
  · subst huv
    simp [chg_self]
  · have hne : (u != v) = true := by simpa using huv
    obtain ⟨a, rfl⟩ := Int.eq_ofNat_of_zero_le hu0
    obtain ⟨b, rfl⟩ := Int.eq_ofNat_of_zero_le hv0
    have hab : a ≠ b := fun e => huv (by rw [e])
    have hsm := hG.small
    obtain ⟨w1, m1, w2, w3, w4⟩ := with5.is (l := up (G.nb a)) (u := (b : Int)) (by have := up_len_le G a; omega) (up_srt G a)
    obtain ⟨x1, m2, x2, x3, x4⟩ := with5.is (l := up (G.nb b)) (u := (a : Int)) (by have := up_len_le G b; omega) (up_srt G b)
    have ga : List.getD (rowsOf G) (Int.toNat (a : Int)) [] = up (G.nb a) := rowsOf_getD hG a
    have gb : List.getD (List.set (rowsOf G) (Int.toNat (a : Int)) m1) (Int.toNat (b : Int)) [] = up (G.nb b) := by
      rw [getD_setP, if_neg (fun e => hab (by have := e.1; simpa using this))]
      exact rowsOf_getD hG b
    have l1 : (a : Int) < ((rowsOf G).length : Int) := by rw [rowsOf_len]; omega
    have l2 : (b : Int) < ((List.set (rowsOf G) (Int.toNat (a : Int)) m1).length : Int) := by rw [List.length_set, rowsOf_len]; omega
    have l3 : Int.toNat (a : Int) < (rowsOf G).length := by rw [rowsOf_len]; omega
    have l4 : Int.toNat (b : Int) < (List.set (rowsOf G) (Int.toNat (a : Int)) m1).length := by rw [List.length_set, rowsOf_len]; omega
    simp only [hne, ga, w1, w2, gb, x1, x2, hu0, hv0, l1, l2, l3, l4, if_true]
    congr 3
    refine rows_ext (chg_ok hG h) (by rw [List.length_set, List.length_set, rowsOf_len]; rfl) (fun c hc => ?_)
    rw [getD_setP]
    by_cases hcb : b = c
    · subst hcb
      rw [if_pos ⟨by simp, l4⟩]
      refine ⟨x3, fun x => (x4 x).trans ?_⟩
      rw [mem_up' hG]
      constructor
      · rintro (rfl | ⟨v, rfl, hv⟩)
        · exact ⟨a, rfl, (chg_adj _ _ _ _).2 (.inl ⟨Ne.symm hab, .inr ⟨rfl, rfl⟩, rfl⟩)⟩
        · by_cases hva : v = a
          · subst hva; exact ⟨v, rfl, (chg_adj _ _ _ _).2 (.inl ⟨Ne.symm hab, .inr ⟨rfl, rfl⟩, rfl⟩)⟩
          · refine ⟨v, rfl, (chg_adj _ _ _ _).2 (.inr ⟨?_, hv⟩)⟩
            rintro ⟨_, ⟨e1, e2⟩ | ⟨e1, e2⟩⟩
            · simp only at e1; omega
            · simp only at e1; omega
      · rintro ⟨v, rfl, hv⟩
        rcases (chg_adj _ _ _ _).1 hv with ⟨_, ⟨e1, e2⟩ | ⟨e1, e2⟩, _⟩ | ⟨_, hv⟩
        · simp only at e1; omega
        · exact .inl (by simp only at e1; omega)
        · exact .inr ⟨v, rfl, hv⟩
    · rw [if_neg (fun e => hcb (by have := e.1; simpa using this)), getD_setP]
      by_cases hca : a = c
      · subst hca
        rw [if_pos ⟨by simp, l3⟩]
        refine ⟨w3, fun x => (w4 x).trans ?_⟩
        rw [mem_up' hG]
        constructor
        · rintro (rfl | ⟨v, rfl, hv⟩)
          · exact ⟨b, rfl, (chg_adj _ _ _ _).2 (.inl ⟨hab, .inl ⟨rfl, rfl⟩, rfl⟩)⟩
          · by_cases hvb : v = b
            · subst hvb; exact ⟨v, rfl, (chg_adj _ _ _ _).2 (.inl ⟨hab, .inl ⟨rfl, rfl⟩, rfl⟩)⟩
            · refine ⟨v, rfl, (chg_adj _ _ _ _).2 (.inr ⟨?_, hv⟩)⟩
              rintro ⟨_, ⟨e1, e2⟩ | ⟨e1, e2⟩⟩
              · simp only at e2; omega
              · simp only at e2; omega
        · rintro ⟨v, rfl, hv⟩
          rcases (chg_adj _ _ _ _).1 hv with ⟨_, ⟨e1, e2⟩ | ⟨e1, e2⟩, _⟩ | ⟨_, hv⟩
          · exact .inl (by simp only at e2; omega)
          · simp only at e2; omega
          · exact .inr ⟨v, rfl, hv⟩
      · rw [if_neg (fun e => hca (by have := e.1; simpa using this)), rowsOf_getD hG]
        refine ⟨up_srt G c, fun x => (mem_up' hG).trans ?_⟩
        refine exists_congr (fun v => and_congr Iff.rfl ⟨fun hv => (chg_adj _ _ _ _).2 (.inr ⟨?_, hv⟩), fun hv => ?_⟩)
        · rintro ⟨_, ⟨e1, e2⟩ | ⟨e1, e2⟩⟩
          · simp only at e1; omega
          · simp only at e2; omega
        · rcases (chg_adj _ _ _ _).1 hv with ⟨_, ⟨e1, e2⟩ | ⟨e1, e2⟩, _⟩ | ⟨_, hv⟩
          · simp only at e1; omega
          · simp only at e2; omega
          · exact hv
theorem cuts5.is {G : Gr} (hG : G.Ok) {u v : Int} (h : okP G.n (u, v) = true) : cuts5.pre (rowsOf G) u v = true ∧ cuts5.fn (rowsOf G) u v = ((rowsOf (G.chg ((u, v), true)), false), ()) := by
  obtain ⟨⟨hu0, hu1⟩, hv0, hv1⟩ := okP_iff.1 h
  simp only at hu0 hu1 hv0 hv1
  refine cuts5.is_fn _ _ _ ?_
  unfold cuts5.run'
  by_cases huv : u = v
  · subst huv
    simp [chg_self]
  · have hne : (u != v) = true := by simpa using huv
    obtain ⟨a, rfl⟩ := Int.eq_ofNat_of_zero_le hu0
    obtain ⟨b, rfl⟩ := Int.eq_ofNat_of_zero_le hv0
    have hab : a ≠ b := fun e => huv (by rw [e])
    have hsm := hG.small
    obtain ⟨w1, w2⟩ := wout5.is (l := up (G.nb a)) (u := (b : Int)) (by have := up_len_le G a; omega)
    obtain ⟨x1, x2⟩ := wout5.is (l := up (G.nb b)) (u := (a : Int)) (by have := up_len_le G b; omega)
    have ga : List.getD (rowsOf G) (Int.toNat (a : Int)) [] = up (G.nb a) := rowsOf_getD hG a
    have gb : List.getD (List.set (rowsOf G) (Int.toNat (a : Int)) ((up (G.nb a)).filter (fun x => x != (b : Int)))) (Int.toNat (b : Int)) [] = up (G.nb b) := by
      rw [getD_setP, if_neg (fun e => hab (by have := e.1; simpa using this))]
      exact rowsOf_getD hG b
    have l1 : (a : Int) < ((rowsOf G).length : Int) := by rw [rowsOf_len]; omega
    have l2 : (b : Int) < ((List.set (rowsOf G) (Int.toNat (a : Int)) ((up (G.nb a)).filter (fun x => x != (b : Int)))).length : Int) := by rw [List.length_set, rowsOf_len]; omega
    have l3 : Int.toNat (a : Int) < (rowsOf G).length := by rw [rowsOf_len]; omega
    have l4 : Int.toNat (b : Int) < (List.set (rowsOf G) (Int.toNat (a : Int)) ((up (G.nb a)).filter (fun x => x != (b : Int)))).length := by rw [List.length_set, rowsOf_len]; omega
    simp only [hne, ga, w1, w2, gb, x1, x2, hu0, hv0, l1, l2, l3, l4, if_true]
    congr 3
    refine rows_ext (chg_ok hG h) (by rw [List.length_set, List.length_set, rowsOf_len]; rfl) (fun c hc => ?_)
    rw [getD_setP]
    have cut : ∀ (c d : Nat), c ≠ d → (∀ v : Nat, (G.chg (((a : Int), (b : Int)), true)).adj c v = true ↔ v ≠ d ∧ G.adj c v = true) → Srt ((up (G.nb c)).filter (fun x => x != (d : Int))) ∧ ∀ x, x ∈ (up (G.nb c)).filter (fun x => x != (d : Int)) ↔ ∃ v : Nat, x = (v : Int) ∧ (G.chg (((a : Int), (b : Int)), true)).adj c v = true := fun c d hcd hh => by
      refine ⟨(up_srt G c).sublist List.filter_sublist, fun x => ?_⟩
      rw [List.mem_filter, mem_up' hG]
      constructor
      · rintro ⟨⟨v, rfl, hv⟩, hn⟩
        exact ⟨v, rfl, (hh v).2 ⟨fun e => by subst e; simp at hn, hv⟩⟩
      · rintro ⟨v, rfl, hv⟩
        obtain ⟨h1, h2⟩ := (hh v).1 hv
        exact ⟨⟨v, rfl, h2⟩, by simpa using fun e => h1 (by omega)⟩
    by_cases hcb : b = c
    · subst hcb
      rw [if_pos ⟨by simp, l4⟩]
      refine cut b a (Ne.symm hab) (fun v => ?_)
      rw [chg_adj]
      constructor
      · rintro (⟨_, _, e⟩ | ⟨h1, h2⟩)
        · cases e
        · exact ⟨fun e => h1 ⟨by rw [e]; exact Ne.symm hab, .inr ⟨by rw [e], rfl⟩⟩, h2⟩
      · rintro ⟨h1, h2⟩
        refine .inr ⟨?_, h2⟩
        rintro ⟨_, ⟨e1, e2⟩ | ⟨e1, e2⟩⟩
        · simp only at e1; omega
        · simp only at e1; omega
    · rw [if_neg (fun e => hcb (by have := e.1; simpa using this)), getD_setP]
      by_cases hca : a = c
      · subst hca
        rw [if_pos ⟨by simp, l3⟩]
        refine cut a b hab (fun v => ?_)
        rw [chg_adj]
        constructor
        · rintro (⟨_, _, e⟩ | ⟨h1, h2⟩)
          · cases e
          · exact ⟨fun e => h1 ⟨by rw [e]; exact hab, .inl ⟨rfl, by rw [e]⟩⟩, h2⟩
        · rintro ⟨h1, h2⟩
          refine .inr ⟨?_, h2⟩
          rintro ⟨_, ⟨e1, e2⟩ | ⟨e1, e2⟩⟩
          · simp only at e2; omega
          · simp only at e2; omega
      · rw [if_neg (fun e => hca (by have := e.1; simpa using this)), rowsOf_getD hG]
        refine ⟨up_srt G c, fun x => (mem_up' hG).trans ?_⟩
        refine exists_congr (fun v => and_congr Iff.rfl ⟨fun hv => (chg_adj _ _ _ _).2 (.inr ⟨?_, hv⟩), fun hv => ?_⟩)
        · rintro ⟨_, ⟨e1, e2⟩ | ⟨e1, e2⟩⟩
          · simp only at e1; omega
          · simp only at e2; omega
        · rcases (chg_adj _ _ _ _).1 hv with ⟨_, ⟨e1, e2⟩ | ⟨e1, e2⟩, _⟩ | ⟨_, hv⟩
          · simp only at e1; omega
          · simp only at e2; omega
          · exact hv
theorem in5.is (v n : Int) : in5.pre v n = true ∧ in5.fn v n = (decide (0 ≤ v) && decide (v < n), ()) := by
  refine in5.is_fn _ _ ?_
  unfold in5.run'
  by_cases h : v ≥ 0
  · have : (0 : Int) ≤ v := h
    simp [h, this]
  · have : ¬ (0 : Int) ≤ v := h
    simp [h, this]
theorem okP_in {n : Nat} {p : Int × Int} : okP n p = ((decide (0 ≤ p.1) && decide (p.1 < (n : Int))) && (decide (0 ≤ p.2) && decide (p.2 < (n : Int)))) := by
  unfold okP; simp only [Bool.and_assoc]
theorem ofPairs_chg (n : Nat) (l : List (Int × Int)) (p : Int × Int) : (Gr.ofPairs n l).chg (p, false) = Gr.ofPairs n (l ++ [p]) := Gr.ext' rfl (fun u v => by
  rw [chg_adj, ofPairs_adj, ofPairs_adj]
  constructor
  · rintro (⟨h1, h2, _⟩ | ⟨_, h1, q, hq, h2⟩)
    · exact ⟨h1, p, by simp, h2⟩
    · exact ⟨h1, q, by simp [hq], h2⟩
  · rintro ⟨h1, q, hq, h2⟩
    by_cases hp : (p.1 = (u : Int) ∧ p.2 = (v : Int)) ∨ (p.1 = (v : Int) ∧ p.2 = (u : Int))
    · exact .inl ⟨h1, hp, rfl⟩
    · refine .inr ⟨fun k => hp k.2, h1, q, ?_, h2⟩
      rcases List.mem_append.1 hq with k | k
      · exact k
      · rw [List.mem_singleton.1 k] at h2
        exact absurd h2 hp)
theorem Make5.F4_is {n : Int} (h0 : 0 ≤ n) {l : List (Int × Int)} (hl : l.length ≤ 1099511627776) : Make5.F4 n l 0 = some (if prsOk n l = true then Sum.inr ((n, l, ()), ()) else Sum.inl ((42, ()), ())) := by
  obtain ⟨m, rfl⟩ := Int.eq_ofNat_of_zero_le h0
  have key := Make5.F4_inv (n0 := (m : Int)) (pairs1 := l) (fun i => 0 ≤ i ∧ i ≤ l.length ∧ ∀ p ∈ l.take i.toNat, okP m p = true) (fun i => l.length - i.toNat)
    (fun z => z = if prsOk (m : Int) l = true then Sum.inr (((m : Int), l, ()), ()) else Sum.inl ((42, ()), ())) (fun i hi => by
      obtain ⟨g0, g1, g2⟩ := hi
      obtain ⟨k, rfl⟩ := Int.eq_ofNat_of_zero_le g0
      unfold Make5.R4
      simp only [Int.toNat_natCast] at g2 ⊢
      refine led_dif (fun q1 => ?_) (fun q1 => led_x ?_)
      · have hk : k < l.length := by omega
        have hw : IntKind.wrap .i64 ((k : Int) + 1) = (k : Int) + 1 := wr (by omega) (by omega)
        have e := take_snoc (0, 0) l k hk
        have hi1 : ((k : Int) + 1).toNat = k + 1 := by omega
        have hmem := mem_getD (0, 0) l k hk
        obtain ⟨p, hp⟩ : ∃ p, l.getD k (0, 0) = p := ⟨_, rfl⟩
        rw [hp] at e hmem
        simp only [hp, (in5.is _ _).1, (in5.is _ _).2, hw, g0, q1, if_true]
        have bad : okP m p = false → (Sum.inl ((42, ()), ()) : Make5.X4) = if prsOk (m : Int) l = true then Sum.inr (((m : Int), l, ()), ()) else Sum.inl ((42, ()), ()) := fun hb => by
          rw [if_neg]
          intro hall
          have := List.all_eq_true.1 hall p hmem
          simp only [Int.toNat_natCast] at this
          rw [this] at hb; cases hb
        have eo := okP_in (n := m) (p := p)
        cases c1 : (decide (0 ≤ p.1) && decide (p.1 < (m : Int))) with
        | false =>
          rw [c1, Bool.false_and] at eo
          simp only [Bool.not_false, Bool.true_eq_false, if_false]
          exact led_x (bad eo)
        | true =>
          rw [c1, Bool.true_and] at eo
          simp only [Bool.not_true, if_true]
          cases c2 : (decide (0 ≤ p.2) && decide (p.2 < (m : Int))) with
          | false =>
            rw [c2] at eo
            simp only [Bool.not_false, if_true]
            exact led_x (bad eo)
          | true =>
            rw [c2] at eo
            simp only [Bool.not_true, Bool.false_eq_true, if_false]
            refine led_k ⟨_, rfl, ⟨by omega, by omega, fun q hq => ?_⟩, by omega⟩
            rw [hi1, e] at hq
            rcases List.mem_append.1 hq with hq | hq
            · exact g2 q hq
            · rw [List.mem_singleton.1 hq]; exact eo
      · rw [if_pos]
        rw [take_all (by omega)] at g2
        exact List.all_eq_true.2 (fun p hp => g2 p hp)) 0 ⟨by omega, by omega, by simp⟩
  obtain ⟨z, hz, hq⟩ := key
  rw [hz, hq]
theorem Make5.F12_is {n : Nat} (hn : n ≤ 16777216) {l : List (Int × Int)} (hl : l.length ≤ 1099511627776) (h : ∀ p ∈ l, okP n p = true) : Make5.F12 l 0 (List.replicate n []) = some ((), ((), rowsOf (Gr.ofPairs n l), ())) := by
  have key := Make5.F12_inv (pairs1 := l) (fun i r => 0 ≤ i ∧ i ≤ l.length ∧ r = rowsOf (Gr.ofPairs n (l.take i.toNat))) (fun i _ => l.length - i.toNat)
    (fun z => z = ((), ((), rowsOf (Gr.ofPairs n l), ()))) (fun i r hi => by
      obtain ⟨g0, g1, rfl⟩ := hi
      obtain ⟨k, rfl⟩ := Int.eq_ofNat_of_zero_le g0
      unfold Make5.R12
      simp only [Int.toNat_natCast]
      refine led_dif (fun q1 => ?_) (fun q1 => led_x (by rw [take_all (by omega)]))
      have hk : k < l.length := by omega
      have hw : IntKind.wrap .i64 ((k : Int) + 1) = (k : Int) + 1 := wr (by omega) (by omega)
      have e := take_snoc (0, 0) l k hk
      have hi1 : ((k : Int) + 1).toNat = k + 1 := by omega
      have hmem := h _ (mem_getD (0, 0) l k hk)
      obtain ⟨j1, j2⟩ := joins5.is (G := Gr.ofPairs n (l.take k)) (ofPairs_ok hn (fun p hp => h p (List.mem_of_mem_take hp))) (u := (l.getD k (0, 0)).1) (v := (l.getD k (0, 0)).2) hmem
      simp only [j1, j2, hw, g0, q1, if_true]
      exact led_k ⟨_, _, rfl, ⟨by omega, by omega, by rw [hi1, e, ← ofPairs_chg]⟩, by omega⟩) 0 (List.replicate n []) ⟨by omega, by omega, by
        refine rows_ext (ofPairs_ok hn (by simp)) (by simp [Gr.ofPairs]) (fun u hu => ?_)
        have : (List.replicate n ([] : List Int)).getD u [] = [] := by simp [List.getD_eq_getElem?_getD, List.getElem?_replicate]; split <;> rfl
        rw [this]
        refine ⟨List.Pairwise.nil, fun x => ⟨fun q => (by cases q), ?_⟩⟩
        rintro ⟨v, _, hv⟩
        simp [Gr.ofPairs] at hv⟩
  obtain ⟨z, hz, hq⟩ := key
  rw [hz, hq]
theorem Make5.is {n : Int} {l : List (Int × Int)} (hl : l.length ≤ 1099511627776) : Make5.pre n l = true ∧ Make5.fn n l = if inN n = true then (if prsOk n l = true then (some (rowsOf (Gr.ofPairs n.toNat l)), 0, ()) else (none, 42, ())) else (none, 41, ()) := by
  refine Make5.is_fn _ _ ?_
  unfold Make5.run'
  by_cases h0 : n < 0
  · have : inN n = false := by simp [inN]; omega
    simp [h0, this]
  · have d0 : decide (n < 0) = false := decide_eq_false h0
    by_cases h1 : n > 16777216
    · have : inN n = false := by simp [inN]; omega
      simp [h0, h1, this]
    · have d1 : decide (n > 16777216) = false := decide_eq_false h1
      have hi : inN n = true := by simp [inN]; omega
      have p0 : (0 : Int) ≤ n := by omega
      have p1 : n.toNat * 24 ≤ 140737488355328 := by omega
      simp only [d0, d1, hi, Make5.F4_is p0 hl, if_true, Bool.false_eq_true, if_false]
      by_cases hp : prsOk n l = true
      · have f := Make5.F12_is (n := n.toNat) (by omega) hl (fun p h => List.all_eq_true.1 hp p h)
        simp only [hp, if_true, p0, p1, f]
      · simp only [hp, if_false, Bool.false_eq_true]
theorem N5.is (G : Gr) : N5.pre (some (rowsOf G)) = true ∧ N5.fn (some (rowsOf G)) = ((G.n : Int), ()) := by
  refine N5.is_fn _ ?_
  unfold N5.run'
  simp [rowsOf_len]
theorem Nb5.is {G : Gr} (hG : G.Ok) (v : Int) : Nb5.pre (some (rowsOf G)) v = true ∧ Nb5.fn (some (rowsOf G)) v = (up (G.nbz v), ()) := by
  refine Nb5.is_fn _ _ ?_
  unfold Nb5.run'
  have hsm := hG.small
  simp only [Option.isSome_some, Option.getD_some, (in5.is _ _).1, (in5.is _ _).2, rowsOf_len, if_true]
  by_cases h : 0 ≤ v ∧ v < (G.n : Int)
  · obtain ⟨k, rfl⟩ := Int.eq_ofNat_of_zero_le h.1
    have g : (rowsOf G).getD (Int.toNat (k : Int)) [] = up (G.nb k) := rowsOf_getD hG k
    have hp : IntsO.pre (up (G.nb k)) = true := decide_eq_true (by have := up_len_le G k; omega)
    have e2 : G.nbz (k : Int) = G.nb k := by simp [Gr.nbz]
    simp only [h.1, h.2, decide_true, Bool.and_self, Bool.not_true, Bool.false_eq_true, if_false, if_true, g, hp, IntsO.fn, e2]
  · have : G.nbz v = [] := by
      unfold Gr.nbz
      split
      · rename_i h0; exact Gr.nb_out hG (by omega)
      · rfl
    have e : (decide (0 ≤ v) && decide (v < (G.n : Int))) = false := by
      rw [Bool.and_eq_false_iff, decide_eq_false_iff_not, decide_eq_false_iff_not]; omega
    simp [e, this, up]
theorem Has5.is {G : Gr} (hG : G.Ok) (u v : Int) : Has5.pre (some (rowsOf G)) u v = true ∧ Has5.fn (some (rowsOf G)) u v = (G.has u v, ()) := by
  refine Has5.is_fn _ _ _ ?_
  unfold Has5.run'
  have hsm := hG.small
  simp only [Option.isSome_some, Option.getD_some, (in5.is _ _).1, (in5.is _ _).2, rowsOf_len, if_true]
  by_cases h : 0 ≤ u ∧ u < (G.n : Int)
  · obtain ⟨k, rfl⟩ := Int.eq_ofNat_of_zero_le h.1
    have g : (rowsOf G).getD (Int.toNat (k : Int)) [] = up (G.nb k) := rowsOf_getD hG k
    obtain ⟨s1, s2⟩ := stands5.is (l := up (G.nb k)) (u := v) (by have := up_len_le G k; omega) (up_srt G k)
    have e : decide (v ∈ up (G.nb k)) = G.has (k : Int) v := by
      rw [Bool.eq_iff_iff, decide_eq_true_eq, mem_up' hG]
      unfold Gr.has
      simp only [Bool.and_eq_true, decide_eq_true_eq, Int.toNat_natCast]
      constructor
      · rintro ⟨w, rfl, hw⟩; exact ⟨⟨by omega, by omega⟩, by simpa using hw⟩
      · rintro ⟨⟨_, h1⟩, h2⟩; exact ⟨v.toNat, by omega, h2⟩
    simp only [h.1, h.2, decide_true, Bool.and_self, if_true, g, s1, s2, e]
  · have e : (decide (0 ≤ u) && decide (u < (G.n : Int))) = false := by
      rw [Bool.and_eq_false_iff, decide_eq_false_iff_not, decide_eq_false_iff_not]; omega
    have : G.has u v = false := by
      rw [Bool.eq_false_iff]
      intro k
      unfold Gr.has at k
      simp only [Bool.and_eq_true, decide_eq_true_eq] at k
      have := hG.rng _ _ k.2
      omega
    simp [e, this]
theorem Edges5.is {G : Gr} (hG : G.Ok) (hn : G.n ≤ 4096) : Edges5.pre (some (rowsOf G)) = true ∧ Edges5.fn (some (rowsOf G)) = ((G.edges : Int), ()) := by
  have key := Edges5.F3_inv (g0 := some (rowsOf G)) (fun s v => 0 ≤ v ∧ v ≤ G.n ∧ s = (sumdeg G v.toNat : Nat)) (fun _ v => G.n - v.toNat)
    (fun z => z = ((((2 * G.edges : Nat) : Int), ()), ())) (fun s v hi => by
      obtain ⟨h0, h1, rfl⟩ := hi
      obtain ⟨k, rfl⟩ := Int.eq_ofNat_of_zero_le h0
      unfold Edges5.R3
      simp only [Option.isSome_some, Option.getD_some, rowsOf_len, if_true, Int.toNat_natCast]
      refine led_dif (fun q1 => ?_) (fun q1 => led_x ?_)
      · have g : (rowsOf G).getD k [] = up (G.nb k) := rowsOf_getD hG k
        have hw : IntKind.wrap .i64 ((k : Int) + 1) = (k : Int) + 1 := wr (by omega) (by omega)
        have hs := sumdeg_le G k
        have hs2 : k * G.n ≤ 4096 * 4096 := Nat.mul_le_mul (by omega) hn
        have hl := up_len_le G k
        have hw2 : IntKind.wrap .i64 ((sumdeg G k : Int) + ((up (G.nb k)).length : Int)) = (sumdeg G k : Int) + ((up (G.nb k)).length : Int) := wr (by omega) (by omega)
        simp only [g, hw, hw2, h0, q1, if_true]
        refine led_k ⟨_, _, rfl, ⟨by omega, by omega, ?_⟩, by omega⟩
        rw [show ((k : Int) + 1).toNat = k + 1 by omega, sumdeg_succ, up_length]
        omega
      · rw [show k = G.n by omega, handshake hG]) 0 0 ⟨by omega, by omega, by simp [sumdeg]⟩
  obtain ⟨z, hz, hq⟩ := key
  refine Edges5.is_fn _ ?_
  unfold Edges5.run'
  have he : G.edges ≤ 4096 * 4096 := Nat.le_trans (edges_le G) (Nat.mul_le_mul hn hn)
  rw [hz, hq]
  simp only
  rw [Int.tdiv_eq_ediv_of_nonneg (by omega), show (((2 * G.edges : Nat) : Int) / 2) = (G.edges : Int) by omega, wr (by omega) (by omega)]
theorem up_getD {G : Gr} {u j : Nat} (hj : j < (G.nb u).length) : (up (G.nb u)).getD j 0 = ((G.nb u)[j] : Int) := by
  simp [up, List.getD_eq_getElem?_getD, hj]
/-- Behind a place of a sorted row stand those that are greater. -/
theorem drop_up {G : Gr} (hG : G.Ok) {u k : Nat} (h1 : ∀ i, i < k → (up (G.nb u)).getD i 0 < (u : Int)) (h2 : ∀ i, k ≤ i → i < (up (G.nb u)).length → (u : Int) ≤ (up (G.nb u)).getD i 0) : (up (G.nb u)).drop k = up ((G.nb u).filter (fun v => decide (u < v))) := by
  refine srt_ext ((up_srt G u).sublist (List.drop_sublist _ _)) ?_ (fun x => ?_)
  · unfold up Srt
    rw [List.pairwise_map]
    exact ((G.nb_sorted u).sublist List.filter_sublist).imp (fun h => by omega)
  · constructor
    · intro hx
      obtain ⟨j, hj, rfl⟩ := (mem_idx 0).1 hx
      rw [List.length_drop] at hj
      have e : ((up (G.nb u)).drop k).getD j 0 = (up (G.nb u)).getD (k + j) 0 := by simp [List.getD_eq_getElem?_getD, List.getElem?_drop]
      rw [e]
      have g := h2 (k + j) (by omega) (by omega)
      obtain ⟨v, hv, ha⟩ := (mem_up' hG).1 (mem_getD 0 (up (G.nb u)) (k + j) (by omega))
      rw [hv] at g ⊢
      have hne : u ≠ v := fun e => by subst e; rw [hG.irr] at ha; cases ha
      exact List.mem_map.2 ⟨v, List.mem_filter.2 ⟨(Gr.mem_nb hG).2 ha, by simp; omega⟩, rfl⟩
    · intro hx
      obtain ⟨v, hv, rfl⟩ := List.mem_map.1 hx
      rw [List.mem_filter, decide_eq_true_eq] at hv
      obtain ⟨j, hj, e⟩ := (mem_idx 0).1 ((mem_up' hG).2 ⟨v, rfl, (Gr.mem_nb hG).1 hv.1⟩)
      have hkj : k ≤ j := by
        rcases Nat.lt_or_ge j k with q | q
        · have := h1 j q; omega
        · exact q
      refine (mem_idx 0).2 ⟨j - k, by rw [List.length_drop]; omega, ?_⟩
      rw [← e]
      simp [List.getD_eq_getElem?_getD, List.getElem?_drop, show k + (j - k) = j by omega]
theorem drop_take_snoc {l : List Int} {k i : Nat} (hk : k ≤ i) (hi : i < l.length) : (l.take (i + 1)).drop k = (l.take i).drop k ++ [l.getD i 0] := by
  rw [take_snoc 0 l i hi, List.drop_append_of_le_length (by rw [List.length_take]; omega)]
theorem Pairs5.F6_is {G : Gr} (hG : G.Ok) (hn : G.n ≤ 4096) {u k : Nat} (hu : u < G.n) (hk : k ≤ (up (G.nb u)).length) {acc : List (Int × Int)} (ha : acc.length ≤ 1099511627776) :
    Pairs5.F6 (some (rowsOf G)) (u : Int) (k : Int) acc = some ((some (rowsOf G), (u : Int), ()), (acc ++ ((up (G.nb u)).drop k).map (fun x => ((u : Int), x)), ())) := by
  have hl := up_len_le G u
  have key := Pairs5.F6_inv (g0 := some (rowsOf G)) (u4 := (u : Int)) (fun i r => (k : Int) ≤ i ∧ i ≤ (up (G.nb u)).length ∧ r = acc ++ (((up (G.nb u)).take i.toNat).drop k).map (fun x => ((u : Int), x))) (fun i _ => (up (G.nb u)).length - i.toNat)
    (fun z => z = ((some (rowsOf G), (u : Int), ()), (acc ++ ((up (G.nb u)).drop k).map (fun x => ((u : Int), x)), ()))) (fun i r hi => by
      obtain ⟨h0, h1, rfl⟩ := hi
      obtain ⟨j, rfl⟩ := Int.eq_ofNat_of_zero_le (show 0 ≤ i by omega)
      unfold Pairs5.R6
      have u0 : (0 : Int) ≤ (u : Int) := by omega
      have u1 : (u : Int) < (G.n : Int) := by omega
      have g : (rowsOf G).getD u [] = up (G.nb u) := rowsOf_getD hG u
      simp only [Option.isSome_some, Option.getD_some, rowsOf_len, if_true, Int.toNat_natCast, u0, u1, g]
      refine led_dif (fun q1 => ?_) (fun q1 => led_x (by rw [take_all (by omega)]))
      have hw : IntKind.wrap .i64 ((j : Int) + 1) = (j : Int) + 1 := wr (by omega) (by omega)
      have room : ((acc ++ (((up (G.nb u)).take j).drop k).map (fun x => ((u : Int), x))).length + [((u : Int), (up (G.nb u)).getD j 0)].length) * 16 ≤ 140737488355328 := by
        simp only [List.length_append, List.length_map, List.length_drop, List.length_take, List.length_singleton]; omega
      have j0 : (0 : Int) ≤ (j : Int) := by omega
      simp only [hw, room, j0, q1, if_true]
      refine led_k ⟨_, _, rfl, ⟨by omega, by omega, ?_⟩, by omega⟩
      rw [show ((j : Int) + 1).toNat = j + 1 by omega, drop_take_snoc (by omega) (by omega), List.map_append, List.append_assoc]
      rfl) (k : Int) acc ⟨by omega, by omega, by simp⟩
  obtain ⟨z, hz, hq⟩ := key
  rw [hz, hq]
theorem Pairs5.is {G : Gr} (hG : G.Ok) (hn : G.n ≤ 4096) : Pairs5.pre (some (rowsOf G)) = true ∧ Pairs5.fn (some (rowsOf G)) = (upP G.pairs, ()) := by
  have key := Pairs5.F3_inv (g0 := some (rowsOf G)) (fun v r => 0 ≤ v ∧ v ≤ G.n ∧ r = upP (pairsTo G v.toNat)) (fun v _ => G.n - v.toNat)
    (fun z => z = ((), (upP G.pairs, ()))) (fun v r hi => by
      obtain ⟨h0, h1, rfl⟩ := hi
      obtain ⟨u, rfl⟩ := Int.eq_ofNat_of_zero_le h0
      unfold Pairs5.R3
      have g : (rowsOf G).getD u [] = up (G.nb u) := rowsOf_getD hG u
      simp only [Option.isSome_some, Option.getD_some, rowsOf_len, if_true, Int.toNat_natCast, g]
      refine led_dif (fun q1 => ?_) (fun q1 => led_x (by rw [show u = G.n by omega, pairsTo_all]))
      have hl := up_len_le G u
      obtain ⟨a1, k, a2, a3, a4, a5⟩ := at5.is (l := up (G.nb u)) (u := (u : Int)) (by omega) (up_srt G u)
      have hp := pairsTo_le G u
      have hp2 : u * G.n ≤ 4096 * 4096 := Nat.mul_le_mul (by omega) hn
      have f := Pairs5.F6_is hG hn (u := u) (k := k) (by omega) a3 (acc := upP (pairsTo G u)) (by rw [upP_length]; omega)
      have hw : IntKind.wrap .i64 ((u : Int) + 1) = (u : Int) + 1 := wr (by omega) (by omega)
      simp only [h0, q1, a1, a2, f, hw, if_true]
      refine led_k ⟨_, _, rfl, ⟨by omega, by omega, ?_⟩, by omega⟩
      rw [show ((u : Int) + 1).toNat = u + 1 by omega, pairsTo_succ, upP_append, drop_up hG a4 a5]
      congr 1
      simp [up, upP, rowP]) 0 [] ⟨by omega, by omega, by simp [pairsTo, upP]⟩
  obtain ⟨z, hz, hq⟩ := key
  exact Pairs5.is_fn _ (by unfold Pairs5.run'; rw [hz, hq])
theorem min_is (a b : Int) : (if a < b then a else b) = min a b := by split <;> omega
theorem max_is (a : Int) : (if (0 : Int) > a then (0 : Int) else a) = max a 0 := by split <;> omega
theorem Arcs5.F6_is {G : Gr} (hG : G.Ok) (hn : G.n ≤ 4096) {b : Int} {u : Nat} (hu : u < G.n) {acc : List (Int × Int)} (ha : acc.length ≤ 1099511627776) :
    Arcs5.F6 (some (rowsOf G)) b (u : Int) 0 acc = some ((some (rowsOf G), b, (u : Int), ()), (acc ++ (up (G.nb u)).map (fun x => ((u : Int), x)), ())) := by
  have hl := up_len_le G u
  have key := Arcs5.F6_inv (g0 := some (rowsOf G)) (to2 := b) (u8 := (u : Int)) (fun i r => 0 ≤ i ∧ i ≤ (up (G.nb u)).length ∧ r = acc ++ ((up (G.nb u)).take i.toNat).map (fun x => ((u : Int), x))) (fun i _ => (up (G.nb u)).length - i.toNat)
    (fun z => z = ((some (rowsOf G), b, (u : Int), ()), (acc ++ (up (G.nb u)).map (fun x => ((u : Int), x)), ()))) (fun i r hi => by
      obtain ⟨h0, h1, rfl⟩ := hi
      obtain ⟨j, rfl⟩ := Int.eq_ofNat_of_zero_le h0
      unfold Arcs5.R6
      have u0 : (0 : Int) ≤ (u : Int) := by omega
      have u1 : (u : Int) < (G.n : Int) := by omega
      have g : (rowsOf G).getD u [] = up (G.nb u) := rowsOf_getD hG u
      simp only [Option.isSome_some, Option.getD_some, rowsOf_len, if_true, Int.toNat_natCast, u0, u1, g]
      refine led_dif (fun q1 => ?_) (fun q1 => led_x (by rw [take_all (by omega)]))
      have hw : IntKind.wrap .i64 ((j : Int) + 1) = (j : Int) + 1 := wr (by omega) (by omega)
      have room : ((acc ++ ((up (G.nb u)).take j).map (fun x => ((u : Int), x))).length + [((u : Int), (up (G.nb u)).getD j 0)].length) * 16 ≤ 140737488355328 := by
        simp only [List.length_append, List.length_map, List.length_take, List.length_singleton]; omega
      simp only [hw, room, h0, q1, if_true]
      refine led_k ⟨_, _, rfl, ⟨by omega, by omega, ?_⟩, by omega⟩
      rw [show ((j : Int) + 1).toNat = j + 1 by omega, take_snoc 0 _ j (by omega), List.map_append, List.append_assoc]
      rfl) 0 acc ⟨by omega, by omega, by simp⟩
  obtain ⟨z, hz, hq⟩ := key
  rw [hz, hq]
theorem Arcs5.is {G : Gr} (hG : G.Ok) (hn : G.n ≤ 4096) {a b : Int} (ha : wf a = true) (hb : wf b = true) : Arcs5.pre (some (rowsOf G)) a b = true ∧ Arcs5.fn (some (rowsOf G)) a b = (upP (G.arcs a b), ()) := by
  obtain ⟨wa1, wa2⟩ := wf_iff.1 ha
  have hsegn := segL_le G.n a b
  have key := Arcs5.F3_inv (g0 := some (rowsOf G)) (to2 := b) (fun v r => max a 0 ≤ v ∧ (v - max a 0).toNat ≤ segL G.n a b ∧ r = upP (arcsTo G a (v - max a 0).toNat)) (fun v _ => segL G.n a b - (v - max a 0).toNat)
    (fun z => z = ((), (upP (G.arcs a b), ()))) (fun v r hi => by
      obtain ⟨h0, h1, rfl⟩ := hi
      unfold Arcs5.R3
      simp only [Option.isSome_some, Option.getD_some, rowsOf_len, if_true, min_is]
      refine led_dif (fun q1 => ?_) (fun q1 => led_x ?_)
      · obtain ⟨u, rfl⟩ := Int.eq_ofNat_of_zero_le (show 0 ≤ v by omega)
        have hl := up_len_le G u
        have hp := arcsTo_le G a ((u : Int) - max a 0).toNat
        have hp2 : ((u : Int) - max a 0).toNat * G.n ≤ 4096 * 4096 := Nat.mul_le_mul (by omega) hn
        have f := Arcs5.F6_is hG hn (b := b) (u := u) (by omega) (acc := upP (arcsTo G a ((u : Int) - max a 0).toNat)) (by rw [upP_length]; omega)
        have hw : IntKind.wrap .i64 ((u : Int) + 1) = (u : Int) + 1 := wr (by omega) (by omega)
        simp only [f, hw]
        have e1 : ((u : Int) + 1 - max a 0).toNat = ((u : Int) - max a 0).toNat + 1 := by omega
        have e2 : segF a + ((u : Int) - max a 0).toNat = u := by unfold segF; omega
        have e3 : ((u : Int) - max a 0).toNat + 1 ≤ segL G.n a b := by unfold segL; omega
        refine led_k ⟨_, _, rfl, ⟨by omega, by omega, ?_⟩, by omega⟩
        rw [e1, arcsTo_succ, upP_append, e2]
        congr 1
        simp [up, upP, rowA]
      · have : (v - max a 0).toNat = segL G.n a b := by unfold segL at *; omega
        rw [this]
        rfl) (max a 0) [] ⟨by omega, by omega, by simp [arcsTo, upP]⟩
  obtain ⟨z, hz, hq⟩ := key
  exact Arcs5.is_fn _ _ _ (by unfold Arcs5.run'; rw [max_is, hz, hq])
theorem Lists5.is {G : Gr} (hG : G.Ok) (hn : G.n ≤ 4096) {a b : Int} (ha : wf a = true) (hb : wf b = true) : Lists5.pre (some (rowsOf G)) a b = true ∧ Lists5.fn (some (rowsOf G)) a b = (upL (G.lists a b), ()) := by
  obtain ⟨wa1, wa2⟩ := wf_iff.1 ha
  have hsegn := segL_le G.n a b
  have key := Lists5.F3_inv (g0 := some (rowsOf G)) (to2 := b) (fun v r => max a 0 ≤ v ∧ (v - max a 0).toNat ≤ segL G.n a b ∧ r = upL (listsTo G a (v - max a 0).toNat)) (fun v _ => segL G.n a b - (v - max a 0).toNat)
    (fun z => z = ((), (upL (G.lists a b), ()))) (fun v r hi => by
      obtain ⟨h0, h1, rfl⟩ := hi
      unfold Lists5.R3
      simp only [Option.isSome_some, Option.getD_some, rowsOf_len, if_true, min_is]
      refine led_dif (fun q1 => ?_) (fun q1 => led_x ?_)
      · obtain ⟨u, rfl⟩ := Int.eq_ofNat_of_zero_le (show 0 ≤ v by omega)
        have hl := up_len_le G u
        have g : (rowsOf G).getD (Int.toNat (u : Int)) [] = up (G.nb u) := rowsOf_getD hG u
        have hp := listsTo_le G a ((u : Int) - max a 0).toNat
        have hw : IntKind.wrap .i64 ((u : Int) + 1) = (u : Int) + 1 := wr (by omega) (by omega)
        have u0 : (0 : Int) ≤ (u : Int) := by omega
        have u1 : (u : Int) < (G.n : Int) := by omega
        have hpi : IntsV.pre (up (G.nb u)) = true := decide_eq_true (by omega)
        have e1 : ((u : Int) + 1 - max a 0).toNat = ((u : Int) - max a 0).toNat + 1 := by omega
        have e2 : segF a + ((u : Int) - max a 0).toNat = u := by unfold segF; omega
        have e3 : ((u : Int) - max a 0).toNat + 1 ≤ segL G.n a b := by unfold segL; omega
        have room : ((upL (listsTo G a ((u : Int) - max a 0).toNat)).length + [((u : Int), (IntsV.fn (up (G.nb u))).1)].length) * 32 ≤ 140737488355328 := by
          simp only [upL, List.length_map, List.length_singleton]; omega
        simp only [g, hw, u0, u1, hpi, room, if_true]
        refine led_dif (fun q2 => led_k ⟨_, _, rfl, ⟨by omega, by omega, ?_⟩, by omega⟩) (fun q2 => led_k ⟨_, _, rfl, ⟨by omega, by omega, ?_⟩, by omega⟩)
        · rw [e1, listsTo_succ, e2, if_pos (by rw [up_length] at q2; omega)]
          simp [upL, IntsV.fn]
        · rw [e1, listsTo_succ, e2, if_neg (by rw [up_length] at q2; omega)]
          simp
      · have : (v - max a 0).toNat = segL G.n a b := by unfold segL at *; omega
        rw [this]
        rfl) (max a 0) [] ⟨by omega, by omega, by simp [listsTo, upL]⟩
  obtain ⟨z, hz, hq⟩ := key
  exact Lists5.is_fn _ _ _ (by unfold Lists5.run'; rw [max_is, hz, hq])
theorem IntL5.is {L : List (List Int)} (hl : L.length ≤ 1099511627) (h : ∀ x ∈ L, x.length ≤ 1099511627776) : IntL5.pre L = true ∧ IntL5.fn L = (L, ()) := by
  have key := IntL5.F3_inv (l0 := L) (fun i r => 0 ≤ i ∧ i ≤ L.length ∧ r = L.take i.toNat) (fun i _ => L.length - i.toNat)
    (fun z => z = ((), (L, ()))) (fun i r hi => by
      obtain ⟨h0, h1, rfl⟩ := hi
      obtain ⟨k, rfl⟩ := Int.eq_ofNat_of_zero_le h0
      unfold IntL5.R3
      simp only [Int.toNat_natCast]
      refine led_dif (fun q1 => ?_) (fun q1 => led_x (by rw [take_all (by omega)]))
      have hk : k < L.length := by omega
      have hw : IntKind.wrap .i64 ((k : Int) + 1) = (k : Int) + 1 := wr (by omega) (by omega)
      have hp : IntsO.pre (L.getD k []) = true := decide_eq_true (by have := h _ (mem_getD [] L k hk); omega)
      have room : ((L.take k).length + [(IntsO.fn (L.getD k [])).1].length) * 24 ≤ 140737488355328 := by
        simp only [List.length_take, List.length_singleton]; omega
      simp only [hw, hp, room, h0, q1, if_true]
      exact led_k ⟨_, _, rfl, ⟨by omega, by omega, by rw [show ((k : Int) + 1).toNat = k + 1 by omega, take_snoc [] L k hk]; rfl⟩, by omega⟩) 0 [] ⟨by omega, by omega, by simp⟩
  obtain ⟨z, hz, hq⟩ := key
  refine IntL5.is_fn _ ?_
  unfold IntL5.run'
  rw [if_pos (by omega), hz, hq]
theorem Chg5.F2_is {G : Gr} (hG : G.Ok) {l : List (Int × Int × Bool)} (hl : l.length ≤ 1099511627776) : Chg5.F2 (some (rowsOf G)) l 0 = some (if chgOk G l = true then Sum.inr ((some (rowsOf G), l, ()), ()) else Sum.inl ((42, ()), ())) := by
  have key := Chg5.F2_inv (g0 := some (rowsOf G)) (l1 := l) (fun i => 0 ≤ i ∧ i ≤ l.length ∧ ∀ p ∈ l.take i.toNat, okP G.n (toC p).1 = true) (fun i => l.length - i.toNat)
    (fun z => z = if chgOk G l = true then Sum.inr ((some (rowsOf G), l, ()), ()) else Sum.inl ((42, ()), ())) (fun i hi => by
      obtain ⟨g0, g1, g2⟩ := hi
      obtain ⟨k, rfl⟩ := Int.eq_ofNat_of_zero_le g0
      unfold Chg5.R2
      simp only [Option.isSome_some, Option.getD_some, rowsOf_len, Int.toNat_natCast, if_true] at g2 ⊢
      refine led_dif (fun q1 => ?_) (fun q1 => led_x ?_)
      · have hk : k < l.length := by omega
        have hw : IntKind.wrap .i64 ((k : Int) + 1) = (k : Int) + 1 := wr (by omega) (by omega)
        have e := take_snoc (0, 0, false) l k hk
        have hi1 : ((k : Int) + 1).toNat = k + 1 := by omega
        have hmem := mem_getD (0, 0, false) l k hk
        obtain ⟨p, hp⟩ : ∃ p, l.getD k (0, 0, false) = p := ⟨_, rfl⟩
        rw [hp] at e hmem
        simp only [hp, (in5.is _ _).1, (in5.is _ _).2, hw, g0, q1, if_true]
        have bad : okP G.n (p.1, p.2.1) = false → (Sum.inl ((42, ()), ()) : Chg5.X2) = if chgOk G l = true then Sum.inr ((some (rowsOf G), l, ()), ()) else Sum.inl ((42, ()), ()) := fun hb => by
          rw [if_neg]
          intro hall
          have : okP G.n (p.1, p.2.1) = true := List.all_eq_true.1 hall p hmem
          rw [this] at hb; cases hb
        have eo := okP_in (n := G.n) (p := (p.1, p.2.1))
        simp only at eo
        cases c1 : (decide (0 ≤ p.1) && decide (p.1 < (G.n : Int))) with
        | false =>
          rw [c1, Bool.false_and] at eo
          simp only [Bool.not_false, Bool.true_eq_false, if_false]
          exact led_x (bad eo)
        | true =>
          rw [c1, Bool.true_and] at eo
          simp only [Bool.not_true, if_true]
          cases c2 : (decide (0 ≤ p.2.1) && decide (p.2.1 < (G.n : Int))) with
          | false =>
            rw [c2] at eo
            simp only [Bool.not_false, if_true]
            exact led_x (bad eo)
          | true =>
            rw [c2] at eo
            simp only [Bool.not_true, Bool.false_eq_true, if_false]
            refine led_k ⟨_, rfl, ⟨by omega, by omega, fun q hq => ?_⟩, by omega⟩
            rw [hi1, e] at hq
            rcases List.mem_append.1 hq with hq | hq
            · exact g2 q hq
            · rw [List.mem_singleton.1 hq]; exact eo
      · rw [if_pos]
        rw [take_all (by omega)] at g2
        exact List.all_eq_true.2 (fun p hp => g2 p hp)) 0 ⟨by omega, by omega, by simp⟩
  obtain ⟨z, hz, hq⟩ := key
  rw [hz, hq]
theorem changed_ok {G : Gr} (hG : G.Ok) {cs : List Chg} (h : ∀ c ∈ cs, okP G.n c.1 = true) : (G.changed cs).Ok := by
  induction cs generalizing G with
  | nil => exact hG
  | cons c cs ih =>
    have : G.changed (c :: cs) = (G.chg c).changed cs := rfl
    rw [this]
    exact ih (chg_ok hG (h c (by simp))) (fun d hd => h d (by simp [hd]))
theorem Chg5.F10_is {G : Gr} (hG : G.Ok) {l : List (Int × Int × Bool)} (hl : l.length ≤ 1099511627776) (h : ∀ p ∈ l, okP G.n (toC p).1 = true) : Chg5.F10 l 0 (rowsOf G) = some ((), ((), rowsOf (G.changed (l.map toC)), ())) := by
  have key := Chg5.F10_inv (l1 := l) (fun i r => 0 ≤ i ∧ i ≤ l.length ∧ r = rowsOf (G.changed ((l.take i.toNat).map toC))) (fun i _ => l.length - i.toNat)
    (fun z => z = ((), ((), rowsOf (G.changed (l.map toC)), ()))) (fun i r hi => by
      obtain ⟨g0, g1, rfl⟩ := hi
      obtain ⟨k, rfl⟩ := Int.eq_ofNat_of_zero_le g0
      unfold Chg5.R10
      simp only [Int.toNat_natCast]
      refine led_dif (fun q1 => ?_) (fun q1 => led_x (by rw [take_all (by omega)]))
      have hk : k < l.length := by omega
      have hw : IntKind.wrap .i64 ((k : Int) + 1) = (k : Int) + 1 := wr (by omega) (by omega)
      have e := take_snoc (0, 0, false) l k hk
      have hi1 : ((k : Int) + 1).toNat = k + 1 := by omega
      have hmem := h _ (mem_getD (0, 0, false) l k hk)
      obtain ⟨p, hp⟩ : ∃ p, l.getD k (0, 0, false) = p := ⟨_, rfl⟩
      rw [hp] at e hmem
      have hok : (G.changed ((l.take k).map toC)).Ok := changed_ok hG (fun c hc => by
        obtain ⟨q, hq, rfl⟩ := List.mem_map.1 hc
        exact h q (List.mem_of_mem_take hq))
      have hm2 : okP (G.changed ((l.take k).map toC)).n (p.1, p.2.1) = true := by rw [changed_n]; exact hmem
      obtain ⟨j1, j2⟩ := joins5.is hok hm2
      obtain ⟨c1, c2⟩ := cuts5.is hok hm2
      simp only [hp, j1, j2, c1, c2, hw, g0, q1, if_true]
      have fin : ∀ b : Bool, p.2.2 = b → rowsOf ((G.changed ((l.take k).map toC)).chg ((p.1, p.2.1), b)) = rowsOf (G.changed ((l.take (k + 1)).map toC)) := fun b hb => by
        rw [e, List.map_append, List.map_cons, List.map_nil, changed_snoc]
        have : toC p = ((p.1, p.2.1), b) := by unfold toC; rw [hb]
        rw [this]
      refine led_if (fun q2 => led_k ⟨_, _, rfl, ⟨by omega, by omega, by rw [hi1]; exact fin true q2⟩, by omega⟩) (fun q2 => led_k ⟨_, _, rfl, ⟨by omega, by omega, by rw [hi1]; exact fin false ((Bool.not_eq_true _).mp q2)⟩, by omega⟩)) 0 (rowsOf G) ⟨by omega, by omega, by simp [Gr.changed]⟩
  obtain ⟨z, hz, hq⟩ := key
  rw [hz, hq]
theorem Chg5.is {G : Gr} (hG : G.Ok) {l : List (Int × Int × Bool)} (hl : l.length ≤ 1099511627776) : Chg5.pre (some (rowsOf G)) l = true ∧ Chg5.fn (some (rowsOf G)) l = if chgOk G l = true then (some (rowsOf (G.changed (l.map toC))), 0, ()) else (none, 42, ()) := by
  refine Chg5.is_fn _ _ ?_
  unfold Chg5.run'
  have hsm := hG.small
  rw [Chg5.F2_is hG hl]
  by_cases h : chgOk G l = true
  · obtain ⟨i1, i2⟩ := IntL5.is (L := rowsOf G) (by rw [rowsOf_len]; omega) (fun x hx => by
      obtain ⟨u, _, rfl⟩ := List.mem_map.1 hx
      have := up_len_le G u; omega)
    have f := Chg5.F10_is hG hl (fun p hp => List.all_eq_true.1 h p hp)
    simp only [h, if_true, Option.isSome_some, Option.getD_some, i1, i2, f]
  · simp only [h, if_false, Bool.false_eq_true]
end Go.Proofs.Ythbojpaghbbnnaa.Z
