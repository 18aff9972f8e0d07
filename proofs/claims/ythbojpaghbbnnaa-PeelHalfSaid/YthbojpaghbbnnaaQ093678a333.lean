/- Proved: the statement PeelHalf holds whatever is handed in. Condition: none but those of the row. -/
import Derived.Test.YthbojpaghbbnnaaQ0e8649478b
import Derived.ProofKit
import Derived.OpenShut
import Derived.ShutString
import Derived.ChangeOld
import Derived.Below
import Derived.SizedLaws
import Derived.Deep.Slices
import Derived.ChangeSame
import Derived.Test.YthbojpaghbbnnaaRows
import Derived.Carry
namespace Go.Proofs.Ythbojpaghbbnnaa.Z
open Go Go.RowKit
set_option linter.unusedVariables false
set_option linter.unusedSimpArgs false
abbrev Srt (l : List Int) : Prop := l.Pairwise (· < ·)
theorem srt_ext : ∀ {a b : List Int}, Srt a → Srt b → (∀ x, x ∈ a ↔ x ∈ b) → a = b
  | [], [], _, _, _ => rfl
  | [], y :: b, _, _, h => absurd ((h y).2 (by simp)) (by simp)
  | x :: a, [], _, _, h => absurd ((h x).1 (by simp)) (by simp)
  | x :: a, y :: b, ha, hb, h => by
    obtain ⟨ha1, ha2⟩ := List.pairwise_cons.1 ha
    obtain ⟨hb1, hb2⟩ := List.pairwise_cons.1 hb
    have hxy : x = y := by
      rcases List.mem_cons.1 ((h x).1 (by simp)) with e | h1
      · exact e
      · rcases List.mem_cons.1 ((h y).2 (by simp)) with e | h2
        · exact e.symm
        · have := ha1 y h2
          have := hb1 x h1
          omega
    subst hxy
    rw [srt_ext ha2 hb2 (fun z => ?_)]
    constructor
    · intro hz
      rcases List.mem_cons.1 ((h z).1 (List.mem_cons_of_mem _ hz)) with e | h1
      · have := ha1 z hz; omega
      · exact h1
    · intro hz
      rcases List.mem_cons.1 ((h z).2 (List.mem_cons_of_mem _ hz)) with e | h1
      · have := hb1 z hz; omega
      · exact h1
theorem srt_getD {l : List Int} (h : Srt l) {i j : Nat} (hij : i < j) (hj : j < l.length) : l.getD i 0 < l.getD j 0 := by
  have := List.pairwise_iff_getElem.1 h i j (by omega) hj hij
  simpa [List.getD_eq_getElem?_getD, List.getElem?_eq_getElem, hj, show i < l.length by omega] using this
theorem mid_is {lo hi : Int} (h0 : 0 ≤ lo) (h1 : lo < hi) (h2 : hi ≤ 2199023255552) : IntKind.wrap .i64 (Int.tdiv (IntKind.wrap .i64 (lo + hi)) 2) = (lo + hi) / 2 := by
  rw [wr (n := lo + hi) (by omega) (by omega), Int.tdiv_eq_ediv_of_nonneg (by omega), wr (by omega) (by omega)]
theorem at5.is {l : List Int} {u : Int} (hl : l.length ≤ 1099511627776) (hs : Srt l) : at5.pre l u = true ∧ ∃ k : Nat, at5.fn l u = ((k : Int), ()) ∧ k ≤ l.length ∧ (∀ i, i < k → l.getD i 0 < u) ∧ ∀ i, k ≤ i → i < l.length → u ≤ l.getD i 0 := by
  have key := at5.F3_inv (l0 := l) (u1 := u) (fun lo hi => 0 ≤ lo ∧ lo ≤ hi ∧ hi ≤ l.length ∧ (∀ i, i < lo.toNat → l.getD i 0 < u) ∧ ∀ i, hi.toNat ≤ i → i < l.length → u ≤ l.getD i 0) (fun lo hi => (hi - lo).toNat)
    (fun z => ∃ k : Nat, z = (((k : Int), ()), ()) ∧ k ≤ l.length ∧ (∀ i, i < k → l.getD i 0 < u) ∧ ∀ i, k ≤ i → i < l.length → u ≤ l.getD i 0) (fun lo hi hi' => by
      obtain ⟨h0, h1, h2, h3, h4⟩ := hi'
      unfold at5.R3
      refine led_dif (fun q1 => ?_) (fun q1 => led_x ⟨lo.toNat, by rw [Int.toNat_of_nonneg h0], by omega, h3, fun i h5 h6 => h4 i (by omega) h6⟩)
      simp only [mid_is h0 q1 (by omega)]
      have hw : IntKind.wrap .i64 ((lo + hi) / 2 + 1) = (lo + hi) / 2 + 1 := wr (by omega) (by omega)
      simp only [hw]
      refine led_need (by omega) (led_need (by omega) (led_dif (fun q2 => led_k ⟨_, _, rfl, ⟨by omega, by omega, h2, fun i h5 => ?_, h4⟩, by omega⟩) (fun q2 => led_k ⟨_, _, rfl, ⟨h0, by omega, by omega, h3, fun i h5 h6 => ?_⟩, by omega⟩)))
      · rcases Nat.lt_or_ge i ((lo + hi) / 2).toNat with q | q
        · have := srt_getD hs q (by omega); omega
        · have : i = ((lo + hi) / 2).toNat := by omega
          rw [this]; exact q2
      · rcases Nat.lt_or_ge ((lo + hi) / 2).toNat i with q | q
        · have := srt_getD hs q h6; omega
        · have : i = ((lo + hi) / 2).toNat := by omega
          rw [this]; omega) 0 l.length ⟨by omega, by omega, by omega, fun i h => by omega, fun i h h' => by omega⟩
  obtain ⟨z, hz, k, hq, h1, h2, h3⟩ := key
  have := at5.is_fn l u (x := ((k : Int), ())) (by unfold at5.run'; rw [hz, hq])
  exact ⟨this.1, k, this.2, h1, h2, h3⟩
theorem at_mem {l : List Int} {u : Int} {k : Nat} (hs : Srt l) (hk : k ≤ l.length) (h1 : ∀ i, i < k → l.getD i 0 < u) (h2 : ∀ i, k ≤ i → i < l.length → u ≤ l.getD i 0) : u ∈ l ↔ k < l.length ∧ l.getD k 0 = u := by
  constructor
  · intro h
    obtain ⟨j, hj, e⟩ := (mem_idx 0).1 h
    rcases Nat.lt_trichotomy j k with q | q | q
    · have := h1 j q; omega
    · subst q; exact ⟨hj, e⟩
    · have := srt_getD hs q hj
      have := h2 k (Nat.le_refl _) (by omega)
      omega
  · rintro ⟨h, e⟩
    exact (mem_idx 0).2 ⟨k, h, e⟩
theorem with5.is {l : List Int} {u : Int} (hl : l.length ≤ 1099511627776) (hs : Srt l) : with5.pre l u = true ∧ ∃ m, with5.fn l u = (m, ()) ∧ Srt m ∧ ∀ x, x ∈ m ↔ x = u ∨ x ∈ l := by
  obtain ⟨a1, k, a2, a3, a4, a5⟩ := at5.is (u := u) hl hs
  have hm := at_mem hs a3 a4 a5
  have h0 : (0 : Int) ≤ (k : Int) := by omega
  have hkl : (k : Int) ≤ (l.length : Int) := by omega
  have hw : IntKind.wrap .i64 ((l.length : Int) + 1) = (l.length : Int) + 1 := wr (by omega) (by omega)
  have b1 : (0 : Int) ≤ (l.length : Int) + 1 := by omega
  have b2 : ((l.length : Int) + 1).toNat * 8 ≤ 140737488355328 := by omega
  have b3 : (0 + (List.take k l).length) * 8 ≤ 140737488355328 := by rw [List.length_take]; omega
  have b4 : (([] ++ List.take k l).length + [u].length) * 8 ≤ 140737488355328 := by simp; omega
  have b5 : (([] ++ List.take k l ++ [u]).length + (List.drop k l).length) * 8 ≤ 140737488355328 := by simp; omega
  by_cases h : u ∈ l
  · obtain ⟨c1, c2⟩ := hm.1 h
    have := with5.is_fn l u (x := (l, ())) (by
      unfold with5.run'
      have hd : decide ((k : Int) < (l.length : Int)) = true := decide_eq_true (by omega)
      have hlt : (k : Int) < (l.length : Int) := by omega
      have he : (l.getD k 0 == u) = true := by simpa using c2
      simp only [a1, a2, if_true, Int.toNat_natCast, decide_true, h0, hlt, he])
    exact ⟨this.1, l, this.2, hs, fun x => ⟨.inr, fun q => q.elim (fun e => e ▸ h) id⟩⟩
  · have := with5.is_fn l u (x := ([] ++ List.take k l ++ [u] ++ List.drop k l, ())) (by
      unfold with5.run'
      by_cases q : (k : Int) < (l.length : Int)
      · have hd : decide ((k : Int) < (l.length : Int)) = true := decide_eq_true q
        have he : (l.getD k 0 == u) = false := by
          rw [beq_eq_false_iff_ne]
          exact fun e => h (hm.2 ⟨by omega, e⟩)
        simp only [a1, a2, if_true, Int.toNat_natCast, decide_true, h0, q, he, Bool.false_eq_true, if_false, hw, b1, b2, b3, b4, b5, hkl]
      · have hd : decide ((k : Int) < (l.length : Int)) = false := decide_eq_false q
        simp only [a1, a2, if_true, Int.toNat_natCast, hd, h0, Bool.false_eq_true, if_false, hw, b1, b2, b3, b4, b5, hkl])
    refine ⟨this.1, _, this.2, ?_, fun x => ?_⟩
    · rw [List.nil_append, List.append_assoc, Srt, List.pairwise_append]
      refine ⟨hs.sublist (List.take_sublist _ _), ?_, fun x hx y hy => ?_⟩
      · rw [List.singleton_append, List.pairwise_cons]
        refine ⟨fun y hy => ?_, hs.sublist (List.drop_sublist _ _)⟩
        obtain ⟨j, hj, rfl⟩ := (mem_idx 0).1 hy
        rw [List.length_drop] at hj
        have e : (List.drop k l).getD j 0 = l.getD (k + j) 0 := by simp [List.getD_eq_getElem?_getD, List.getElem?_drop]
        rw [e]
        have g := a5 (k + j) (by omega) (by omega)
        rcases Int.lt_or_le u (l.getD (k + j) 0) with g2 | g2
        · exact g2
        · exact absurd ((mem_idx 0).2 ⟨k + j, by omega, by omega⟩) h
      · obtain ⟨i, hi, rfl⟩ := (mem_idx 0).1 hx
        rw [List.length_take] at hi
        have e : (List.take k l).getD i 0 = l.getD i 0 := by simp [List.getD_eq_getElem?_getD, List.getElem?_take, show i < k by omega]
        rw [e]
        have g := a4 i (by omega)
        rw [List.singleton_append, List.mem_cons] at hy
        rcases hy with rfl | hy
        · exact g
        · obtain ⟨j, hj, rfl⟩ := (mem_idx 0).1 hy
          rw [List.length_drop] at hj
          have e : (List.drop k l).getD j 0 = l.getD (k + j) 0 := by simp [List.getD_eq_getElem?_getD, List.getElem?_drop]
          rw [e]
          have := a5 (k + j) (by omega) (by omega)
          omega
    · rw [List.nil_append, List.append_assoc, List.mem_append, List.singleton_append, List.mem_cons]
      conv => rhs; rw [← List.take_append_drop k l, List.mem_append]
      constructor
      · rintro (a | a | a)
        · exact .inr (.inl a)
        · exact .inl a
        · exact .inr (.inr a)
      · rintro (a | a | a)
        · exact .inr (.inl a)
        · exact .inl a
        · exact .inr (.inr a)
def rowsOf (G : Gr) : List (List Int) := (List.range G.n).map (fun u => up (G.nb u))
theorem rowsOf_len (G : Gr) : (rowsOf G).length = G.n := by simp [rowsOf]
theorem rowsOf_getD {G : Gr} (hG : G.Ok) (u : Nat) : (rowsOf G).getD u [] = up (G.nb u) := by
  rcases Nat.lt_or_ge u G.n with h | h
  · simp [rowsOf, List.getD, h]
  · rw [Gr.nb_out hG h]
    simp [rowsOf, List.getD, List.getElem?_eq_none, h, up]
theorem up_srt (G : Gr) (u : Nat) : Srt (up (G.nb u)) := by
  unfold up Srt
  rw [List.pairwise_map]
  exact (G.nb_sorted u).imp (fun h => by omega)
theorem mem_up' {G : Gr} (hG : G.Ok) {u : Nat} {x : Int} : x ∈ up (G.nb u) ↔ ∃ v : Nat, x = (v : Int) ∧ G.adj u v = true := by
  unfold up
  simp only [List.mem_map]
  constructor
  · rintro ⟨v, hv, rfl⟩; exact ⟨v, rfl, (Gr.mem_nb hG).1 hv⟩
  · rintro ⟨v, rfl, hv⟩; exact ⟨v, (Gr.mem_nb hG).2 hv, rfl⟩
theorem up_len_le (G : Gr) (u : Nat) : (up (G.nb u)).length ≤ G.n := by rw [up_length]; exact G.nb_length_le u
theorem rows_ext {L : List (List Int)} {G : Gr} (hG : G.Ok) (hl : L.length = G.n) (h : ∀ u, u < G.n → Srt (L.getD u []) ∧ ∀ x, x ∈ L.getD u [] ↔ ∃ v : Nat, x = (v : Int) ∧ G.adj u v = true) : L = rowsOf G := by
  refine List.ext_getElem (by rw [hl, rowsOf_len]) (fun i h1 h2 => ?_)
  obtain ⟨a, b⟩ := h i (by omega)
  have e1 : L.getD i [] = L[i] := by simp [List.getD_eq_getElem?_getD, List.getElem?_eq_getElem, h1]
  have e2 : (rowsOf G).getD i [] = (rowsOf G)[i] := by simp [List.getD_eq_getElem?_getD, List.getElem?_eq_getElem, h2]
  rw [← e1, ← e2, rowsOf_getD hG]
  exact srt_ext a (up_srt G i) (fun x => (b x).trans (mem_up' hG).symm)
theorem chg_self (G : Gr) (u : Int) (g : Bool) : G.chg ((u, u), g) = G := Gr.ext' rfl (fun a b => by
  rw [chg_adj]
  constructor
  · rintro (⟨h1, h2 | h2, _⟩ | ⟨_, h⟩)
    · obtain ⟨e1, e2⟩ := h2; exact absurd (show a = b by simp only at e1 e2; omega) h1
    · obtain ⟨e1, e2⟩ := h2; exact absurd (show a = b by simp only at e1 e2; omega) h1
    · exact h
  · intro h
    refine .inr ⟨?_, h⟩
    rintro ⟨h1, h2 | h2⟩
    · obtain ⟨e1, e2⟩ := h2; exact h1 (by simp only at e1 e2; omega)
    · obtain ⟨e1, e2⟩ := h2; exact h1 (by simp only at e1 e2; omega))
theorem joins5.is {G : Gr} (hG : G.Ok) {u v : Int} (h : okP G.n (u, v) = true) : joins5.pre (rowsOf G) u v = true ∧ joins5.fn (rowsOf G) u v = ((rowsOf (G.chg ((u, v), false)), false), ()) := by
  obtain ⟨⟨hu0, hu1⟩, hv0, hv1⟩ := okP_iff.1 h
  simp only at hu0 hu1 hv0 hv1
  refine joins5.is_fn _ _ _ ?_
  unfold joins5.run'
  by_cases huv : u = v
  · subst huv
    simp [chg_self]
  · have hne : (u != v) = true := by simpa using huv
    obtain ⟨a, rfl⟩ := Int.eq_ofNat_of_zero_le hu0
    obtain ⟨b, rfl⟩ := Int.eq_ofNat_of_zero_le hv0
    have hab : a ≠ b := fun e => huv (by rw [e])
    have hsm := hG.small
    obtain ⟨w1, m1, w2, w3, w4⟩ := with5.is (l := up (G.nb a)) (u := (b : Int)) (by have := up_len_le G a; omega) (up_srt G a)
    obtain ⟨x1, m2, x2, x3, x4⟩ := with5.is (l := up (G.nb b)) (u := (a : Int)) (by have := up_len_le G b; omega) (up_srt G b)
    have ga : List.getD (rowsOf G) (Int.toNat (a : Int)) [] = up (G.nb a) := rowsOf_getD hG a
    have gb : List.getD (List.set (rowsOf G) (Int.toNat (a : Int)) m1) (Int.toNat (b : Int)) [] = up (G.nb b) := by
      rw [getD_setP, if_neg (fun e => hab (by have := e.1; simpa using this))]
      exact rowsOf_getD hG b
    have l1 : (a : Int) < ((rowsOf G).length : Int) := by rw [rowsOf_len]; omega
    have l2 : (b : Int) < ((List.set (rowsOf G) (Int.toNat (a : Int)) m1).length : Int) := by rw [List.length_set, rowsOf_len]; omega
    have l3 : Int.toNat (a : Int) < (rowsOf G).length := by rw [rowsOf_len]; omega
    have l4 : Int.toNat (b : Int) < (List.set (rowsOf G) (Int.toNat (a : Int)) m1).length := by rw [List.length_set, rowsOf_len]; omega
    simp only [hne, ga, w1, w2, gb, x1, x2, hu0, hv0, l1, l2, l3, l4, if_true]
    congr 3
    refine rows_ext (chg_ok hG h) (by rw [List.length_set, List.length_set, rowsOf_len]; rfl) (fun c hc => ?_)
    rw [getD_setP]
    by_cases hcb : b = c
    · subst hcb
      rw [if_pos ⟨by simp, l4⟩]
      refine ⟨x3, fun x => (x4 x).trans ?_⟩
      rw [mem_up' hG]
      constructor
      · rintro (rfl | ⟨v, rfl, hv⟩)
        · exact ⟨a, rfl, (chg_adj _ _ _ _).2 (.inl ⟨Ne.symm hab, .inr ⟨rfl, rfl⟩, rfl⟩)⟩
        · by_cases hva : v = a
          · subst hva; exact ⟨v, rfl, (chg_adj _ _ _ _).2 (.inl ⟨Ne.symm hab, .inr ⟨rfl, rfl⟩, rfl⟩)⟩
          · refine ⟨v, rfl, (chg_adj _ _ _ _).2 (.inr ⟨?_, hv⟩)⟩
            rintro ⟨_, ⟨e1, e2⟩ | ⟨e1, e2⟩⟩
            · simp only at e1; omega
            · simp only at e1; omega
      · rintro ⟨v, rfl, hv⟩
        rcases (chg_adj _ _ _ _).1 hv with ⟨_, ⟨e1, e2⟩ | ⟨e1, e2⟩, _⟩ | ⟨_, hv⟩
        · simp only at e1; omega
        · exact .inl (by simp only at e1; omega)
        · exact .inr ⟨v, rfl, hv⟩
    · rw [if_neg (fun e => hcb (by have := e.1; simpa using this)), getD_setP]
      by_cases hca : a = c
      · subst hca
        rw [if_pos ⟨by simp, l3⟩]
        refine ⟨w3, fun x => (w4 x).trans ?_⟩
        rw [mem_up' hG]
        constructor
        · rintro (rfl | ⟨v, rfl, hv⟩)
          · exact ⟨b, rfl, (chg_adj _ _ _ _).2 (.inl ⟨hab, .inl ⟨rfl, rfl⟩, rfl⟩)⟩
          · by_cases hvb : v = b
            · subst hvb; exact ⟨v, rfl, (chg_adj _ _ _ _).2 (.inl ⟨hab, .inl ⟨rfl, rfl⟩, rfl⟩)⟩
            · refine ⟨v, rfl, (chg_adj _ _ _ _).2 (.inr ⟨?_, hv⟩)⟩
              rintro ⟨_, ⟨e1, e2⟩ | ⟨e1, e2⟩⟩
              · simp only at e2; omega
              · simp only at e2; omega
        · rintro ⟨v, rfl, hv⟩
          rcases (chg_adj _ _ _ _).1 hv with ⟨_, ⟨e1, e2⟩ | ⟨e1, e2⟩, _⟩ | ⟨_, hv⟩
          · exact .inl (by simp only at e2; omega)
          · simp only at e2; omega
          · exact .inr ⟨v, rfl, hv⟩
      · rw [if_neg (fun e => hca (by have := e.1; simpa using this)), rowsOf_getD hG]
        refine ⟨up_srt G c, fun x => (mem_up' hG).trans ?_⟩
        refine exists_congr (fun v => and_congr Iff.rfl ⟨fun hv => (chg_adj _ _ _ _).2 (.inr ⟨?_, hv⟩), fun hv => ?_⟩)
        · rintro ⟨_, ⟨e1, e2⟩ | ⟨e1, e2⟩⟩
          · simp only at e1; omega
          · simp only at e2; omega
        · rcases (chg_adj _ _ _ _).1 hv with ⟨_, ⟨e1, e2⟩ | ⟨e1, e2⟩, _⟩ | ⟨_, hv⟩
          · simp only at e1; omega
          · simp only at e2; omega
          · exact hv
theorem in5.is (v n : Int) : in5.pre v n = true ∧ in5.fn v n = (decide (0 ≤ v) && decide (v < n), ()) := by
  refine in5.is_fn _ _ ?_
  unfold in5.run'
  by_cases h : v ≥ 0
  · have : (0 : Int) ≤ v := h
    simp [h, this]
  · have : ¬ (0 : Int) ≤ v := h
    simp [h, this]
theorem okP_in {n : Nat} {p : Int × Int} : okP n p = ((decide (0 ≤ p.1) && decide (p.1 < (n : Int))) && (decide (0 ≤ p.2) && decide (p.2 < (n : Int)))) := by
  unfold okP; simp only [Bool.and_assoc]
theorem ofPairs_chg (n : Nat) (l : List (Int × Int)) (p : Int × Int) : (Gr.ofPairs n l).chg (p, false) = Gr.ofPairs n (l ++ [p]) := Gr.ext' rfl (fun u v => by
  rw [chg_adj, ofPairs_adj, ofPairs_adj]
  constructor
  · rintro (⟨h1, h2, _⟩ | ⟨_, h1, q, hq, h2⟩)
    · exact ⟨h1, p, by simp, h2⟩
    · exact ⟨h1, q, by simp [hq], h2⟩
  · rintro ⟨h1, q, hq, h2⟩
    by_cases hp : (p.1 = (u : Int) ∧ p.2 = (v : Int)) ∨ (p.1 = (v : Int) ∧ p.2 = (u : Int))
    · exact .inl ⟨h1, hp, rfl⟩
    · refine .inr ⟨fun k => hp k.2, h1, q, ?_, h2⟩
      rcases List.mem_append.1 hq with k | k
      · exact k
      · rw [List.mem_singleton.1 k] at h2
        exact absurd h2 hp)
theorem Make5.F4_is {n : Int} (h0 : 0 ≤ n) {l : List (Int × Int)} (hl : l.length ≤ 1099511627776) : Make5.F4 n l 0 = some (if prsOk n l = true then Sum.inr ((n, l, ()), ()) else Sum.inl ((42, ()), ())) := by
  obtain ⟨m, rfl⟩ := Int.eq_ofNat_of_zero_le h0
  have key := Make5.F4_inv (n0 := (m : Int)) (pairs1 := l) (fun i => 0 ≤ i ∧ i ≤ l.length ∧ ∀ p ∈ l.take i.toNat, okP m p = true) (fun i => l.length - i.toNat)
    (fun z => z = if prsOk (m : Int) l = true then Sum.inr (((m : Int), l, ()), ()) else Sum.inl ((42, ()), ())) (fun i hi => by
      obtain ⟨g0, g1, g2⟩ := hi
      obtain ⟨k, rfl⟩ := Int.eq_ofNat_of_zero_le g0
      unfold Make5.R4
      simp only [Int.toNat_natCast] at g2 ⊢
      refine led_dif (fun q1 => ?_) (fun q1 => led_x ?_)
      · have hk : k < l.length := by omega
        have hw : IntKind.wrap .i64 ((k : Int) + 1) = (k : Int) + 1 := wr (by omega) (by omega)
        have e := take_snoc (0, 0) l k hk
        have hi1 : ((k : Int) + 1).toNat = k + 1 := by omega
        have hmem := mem_getD (0, 0) l k hk
        obtain ⟨p, hp⟩ : ∃ p, l.getD k (0, 0) = p := ⟨_, rfl⟩
        rw [hp] at e hmem
        simp only [hp, (in5.is _ _).1, (in5.is _ _).2, hw, g0, q1, if_true]
        have bad : okP m p = false → (Sum.inl ((42, ()), ()) : Make5.X4) = if prsOk (m : Int) l = true then Sum.inr (((m : Int), l, ()), ()) else Sum.inl ((42, ()), ()) := fun hb => by
          rw [if_neg]
          intro hall
          have := List.all_eq_true.1 hall p hmem
          simp only [Int.toNat_natCast] at this
          rw [this] at hb; cases hb
        have eo := okP_in (n := m) (p := p)
        cases c1 : (decide (0 ≤ p.1) && decide (p.1 < (m : Int))) with
        | false =>
          rw [c1, Bool.false_and] at eo
          simp only [Bool.not_false, Bool.true_eq_false, if_false]
          exact led_x (bad eo)
        | true =>
          rw [c1, Bool.true_and] at eo
          simp only [Bool.not_true, if_true]
          cases c2 : (decide (0 ≤ p.2) && decide (p.2 < (m : Int))) with
          | false =>
            rw [c2] at eo
            simp only [Bool.not_false, if_true]
            exact led_x (bad eo)
          | true =>
            rw [c2] at eo
            simp only [Bool.not_true, Bool.false_eq_true, if_false]
            refine led_k ⟨_, rfl, ⟨by omega, by omega, fun q hq => ?_⟩, by omega⟩
            rw [hi1, e] at hq
            rcases List.mem_append.1 hq with hq | hq
            · exact g2 q hq
            · rw [List.mem_singleton.1 hq]; exact eo
      · rw [if_pos]
        rw [take_all (by omega)] at g2
        exact List.all_eq_true.2 (fun p hp => g2 p hp)) 0 ⟨by omega, by omega, by simp⟩
  obtain ⟨z, hz, hq⟩ := key
  rw [hz, hq]
theorem Make5.F12_is {n : Nat} (hn : n ≤ 16777216) {l : List (Int × Int)} (hl : l.length ≤ 1099511627776) (h : ∀ p ∈ l, okP n p = true) : Make5.F12 l 0 (List.replicate n []) = some ((), ((), rowsOf (Gr.ofPairs n l), ())) := by
  have key := Make5.F12_inv (pairs1 := l) (fun i r => 0 ≤ i ∧ i ≤ l.length ∧ r = rowsOf (Gr.ofPairs n (l.take i.toNat))) (fun i _ => l.length - i.toNat)
    (fun z => z = ((), ((), rowsOf (Gr.ofPairs n l), ()))) (fun i r hi => by
      obtain ⟨g0, g1, rfl⟩ := hi
      obtain ⟨k, rfl⟩ := Int.eq_ofNat_of_zero_le g0
      unfold Make5.R12
      simp only [Int.toNat_natCast]
      refine led_dif (fun q1 => ?_) (fun q1 => led_x (by rw [take_all (by omega)]))
      have hk : k < l.length := by omega
      have hw : IntKind.wrap .i64 ((k : Int) + 1) = (k : Int) + 1 := wr (by omega) (by omega)
      have e := take_snoc (0, 0) l k hk
      have hi1 : ((k : Int) + 1).toNat = k + 1 := by omega
      have hmem := h _ (mem_getD (0, 0) l k hk)
      obtain ⟨j1, j2⟩ := joins5.is (G := Gr.ofPairs n (l.take k)) (ofPairs_ok hn (fun p hp => h p (List.mem_of_mem_take hp))) (u := (l.getD k (0, 0)).1) (v := (l.getD k (0, 0)).2) hmem
      simp only [j1, j2, hw, g0, q1, if_true]
      exact led_k ⟨_, _, rfl, ⟨by omega, by omega, by rw [hi1, e, ← ofPairs_chg]⟩, by omega⟩) 0 (List.replicate n []) ⟨by omega, by omega, by
        refine rows_ext (ofPairs_ok hn (by simp)) (by simp [Gr.ofPairs]) (fun u hu => ?_)
        have : (List.replicate n ([] : List Int)).getD u [] = [] := by simp [List.getD_eq_getElem?_getD, List.getElem?_replicate]; split <;> rfl
        rw [this]
        refine ⟨List.Pairwise.nil, fun x => ⟨fun q => (by cases q), ?_⟩⟩
        rintro ⟨v, _, hv⟩
        simp [Gr.ofPairs] at hv⟩
  obtain ⟨z, hz, hq⟩ := key
  rw [hz, hq]
theorem Make5.is {n : Int} {l : List (Int × Int)} (hl : l.length ≤ 1099511627776) : Make5.pre n l = true ∧ Make5.fn n l = if inN n = true then (if prsOk n l = true then (some (rowsOf (Gr.ofPairs n.toNat l)), 0, ()) else (none, 42, ())) else (none, 41, ()) := by
  refine Make5.is_fn _ _ ?_
  unfold Make5.run'
  by_cases h0 : n < 0
  · have : inN n = false := by simp [inN]; omega
    simp [h0, this]
  · have d0 : decide (n < 0) = false := decide_eq_false h0
    by_cases h1 : n > 16777216
    · have : inN n = false := by simp [inN]; omega
      simp [h0, h1, this]
    · have d1 : decide (n > 16777216) = false := decide_eq_false h1
      have hi : inN n = true := by simp [inN]; omega
      have p0 : (0 : Int) ≤ n := by omega
      have p1 : n.toNat * 24 ≤ 140737488355328 := by omega
      simp only [d0, d1, hi, Make5.F4_is p0 hl, if_true, Bool.false_eq_true, if_false]
      by_cases hp : prsOk n l = true
      · have f := Make5.F12_is (n := n.toNat) (by omega) hl (fun p h => List.all_eq_true.1 hp p h)
        simp only [hp, if_true, p0, p1, f]
      · simp only [hp, if_false, Bool.false_eq_true]
theorem N5.is (G : Gr) : N5.pre (some (rowsOf G)) = true ∧ N5.fn (some (rowsOf G)) = ((G.n : Int), ()) := by
  refine N5.is_fn _ ?_
  unfold N5.run'
  simp [rowsOf_len]
theorem Nb5.is {G : Gr} (hG : G.Ok) (v : Int) : Nb5.pre (some (rowsOf G)) v = true ∧ Nb5.fn (some (rowsOf G)) v = (up (G.nbz v), ()) := by
  refine Nb5.is_fn _ _ ?_
  unfold Nb5.run'
  have hsm := hG.small
  simp only [Option.isSome_some, Option.getD_some, (in5.is _ _).1, (in5.is _ _).2, rowsOf_len, if_true]
  by_cases h : 0 ≤ v ∧ v < (G.n : Int)
  · obtain ⟨k, rfl⟩ := Int.eq_ofNat_of_zero_le h.1
    have g : (rowsOf G).getD (Int.toNat (k : Int)) [] = up (G.nb k) := rowsOf_getD hG k
    have hp : IntsO.pre (up (G.nb k)) = true := decide_eq_true (by have := up_len_le G k; omega)
    have e2 : G.nbz (k : Int) = G.nb k := by simp [Gr.nbz]
    simp only [h.1, h.2, decide_true, Bool.and_self, Bool.not_true, Bool.false_eq_true, if_false, if_true, g, hp, IntsO.fn, e2]
  · have : G.nbz v = [] := by
      unfold Gr.nbz
      split
      · rename_i h0; exact Gr.nb_out hG (by omega)
      · rfl
    have e : (decide (0 ≤ v) && decide (v < (G.n : Int))) = false := by
      rw [Bool.and_eq_false_iff, decide_eq_false_iff_not, decide_eq_false_iff_not]; omega
    simp [e, this, up]
end Go.Proofs.Ythbojpaghbbnnaa.Z
namespace Go.Proofs.Ythbojpaghbbnnaa.Z
open Go Go.RowKit
set_option linter.unusedVariables false
set_option linter.unusedSimpArgs false
abbrev bset (l : List Bool) : Nat → Bool := fun x => l.getD x false
theorem all6.is {n : Nat} (hn : n ≤ 16777216) : all6.pre (n : Int) = true ∧ all6.fn (n : Int) = (List.replicate n true, ()) := by
  have key := all6.F3_inv (n0 := (n : Int)) (fun i r => ∃ k : Nat, i = (k : Int) ∧ k ≤ n ∧ r = List.replicate k true) (fun i _ => n - i.toNat) (fun z => z = ((), (List.replicate n true, ()))) (fun i r hI => by
    obtain ⟨k, rfl, hk, rfl⟩ := hI
    unfold all6.R3
    refine led_dif (fun q1 => ?_) (fun q1 => led_x ?_)
    · have hw : IntKind.wrap .i64 ((k : Int) + 1) = (k : Int) + 1 := wr (by omega) (by omega)
      have room : ((List.replicate k true).length + [true].length) * 1 ≤ 140737488355328 := by simp; omega
      simp only [hw, room, if_true]
      exact led_k ⟨_, _, rfl, ⟨k + 1, by omega, by omega, by rw [List.replicate_succ']⟩, by omega⟩
    · obtain rfl : k = n := by omega
      rfl) 0 [] ⟨0, rfl, by omega, rfl⟩
  obtain ⟨z, hz, rfl⟩ := key
  refine all6.is_fn _ ?_
  unfold all6.run'
  rw [hz]
theorem inSet_snoc (S : Nat → Bool) (l : List Int) (x : Int) : Hx.inSet S (l ++ [x]) = Hx.inSet S l + if S x.toNat = true then 1 else 0 := by
  unfold Hx.inSet
  rw [List.countP_append, List.countP_cons, List.countP_nil]
  by_cases h : S x.toNat = true
  · simp [h]
  · simp [h]
theorem nbz_at (G : Gr) (v : Nat) : G.nbz (v : Int) = G.nb v := by
  unfold Gr.nbz
  rw [if_pos (by omega), Int.toNat_natCast]
theorem there6.is {G : Gr} (hG : G.Ok) (hn : G.n ≤ 16777216) {l : List Bool} (hl : l.length = G.n) {v : Nat} : there6.pre (some (rowsOf G)) l (v : Int) = true ∧ there6.fn (some (rowsOf G)) l (v : Int) = (Hx.inSet (bset l) (nbsOf G v), ()) := by
  have key := there6.F4_inv (in1 := l) (l8 := up (G.nb v)) (fun n i => ∃ j : Nat, i = (j : Int) ∧ j ≤ (G.nb v).length ∧ n = Hx.inSet (bset l) ((up (G.nb v)).take j)) (fun _ i => (G.nb v).length - i.toNat)
    (fun z => z = ((Hx.inSet (bset l) (nbsOf G v), ()), ())) (fun n i hI => by
      obtain ⟨j, rfl, hj, rfl⟩ := hI
      unfold there6.R4
      have hlen : (up (G.nb v)).length = (G.nb v).length := up_length _
      have hb := G.nb_length_le v
      refine led_dif (fun q1 => ?_) (fun q1 => led_x ?_)
      · have hjl : j < (up (G.nb v)).length := by omega
        have hm := mem_getD 0 (up (G.nb v)) j hjl
        obtain ⟨x, hx, hxe⟩ := List.mem_map.1 hm
        have hxn : x < G.n := hG.rng' ((Gr.mem_nb hG).1 hx)
        have hw : IntKind.wrap .i64 ((j : Int) + 1) = (j : Int) + 1 := wr (by omega) (by omega)
        have h0 := Hx.inSet_nonneg (bset l) ((up (G.nb v)).take j)
        have h1 := Hx.inSet_le (bset l) ((up (G.nb v)).take j)
        rw [List.length_take] at h1
        have hw2 : IntKind.wrap .i64 (Hx.inSet (bset l) ((up (G.nb v)).take j) + 1) = Hx.inSet (bset l) ((up (G.nb v)).take j) + 1 := wr (by omega) (by omega)
        have a1 : (0 : Int) ≤ (j : Int) := by omega
        have a2 : (0 : Int) ≤ (x : Int) := by omega
        have a3 : (x : Int) < (l.length : Int) := by omega
        have tk := take_snoc 0 (up (G.nb v)) j hjl
        rw [← hxe] at tk
        simp only [Int.toNat_natCast, ← hxe, hw, hw2, a1, a2, a3, q1, if_true]
        have tn : ((j : Int) + 1).toNat = j + 1 := by omega
        by_cases hb2 : l.getD x false = true
        · simp only [hb2, if_true]
          exact led_k ⟨_, _, rfl, ⟨j + 1, by omega, by omega, by rw [tk, inSet_snoc, if_pos (show bset l (x : Int).toNat = true by rw [Int.toNat_natCast]; exact hb2)]⟩, by omega⟩
        · simp only [hb2, if_false]
          exact led_k ⟨_, _, rfl, ⟨j + 1, by omega, by omega, by rw [tk, inSet_snoc, if_neg (show ¬ bset l (x : Int).toNat = true by rw [Int.toNat_natCast]; exact hb2)]; omega⟩, by omega⟩
      · rw [List.take_of_length_le (by omega)]) 0 0 ⟨0, rfl, by omega, rfl⟩
  obtain ⟨z, hz, rfl⟩ := key
  refine there6.is_fn _ _ _ ?_
  unfold there6.run'
  simp only [(Nb5.is hG _).1, (Nb5.is hG _).2, nbz_at, hz, if_true]
theorem count_setF : ∀ (l : List Bool) (v : Nat), l.getD v false = true → (l.set v false).count true + 1 = l.count true
  | [], v, h => by simp at h
  | x :: l, 0, h => by
    have : x = true := by simpa using h
    subst this
    simp
  | x :: l, v + 1, h => by
    have ih := count_setF l v (by simpa using h)
    cases x <;> simp only [List.set_cons_succ, List.count_cons] <;> omega
/-- What one pass leaves. -/
structure Pass (G : Gr) (k : Int) (r0 r : List Bool) : Prop where
  len : r.length = G.n
  sub : ∀ x, bset r x = true → bset r0 x = true
  top : ∀ S, Hx.Dense G.n (nbsOf G) S k → (∀ x, S x = true → bset r0 x = true) → ∀ x, S x = true → bset r x = true
theorem Pass.refl {G : Gr} {k : Int} {r : List Bool} (h : r.length = G.n) : Pass G k r r := ⟨h, fun _ h => h, fun _ _ h => h⟩
theorem Pass.trans {G : Gr} {k : Int} {a b c : List Bool} (h : Pass G k a b) (k' : Pass G k b c) : Pass G k a c := ⟨k'.len, fun x hx => h.sub x (k'.sub x hx), fun S hS hs => k'.top S hS (h.top S hS hs)⟩
theorem bset_setF (r : List Bool) (v x : Nat) : bset (r.set v false) x = if v = x ∧ v < r.length then false else bset r x := Hx.getD_setG r v x false
theorem Pass.drop {G : Gr} {k : Int} {r0 r : List Bool} {v : Nat} (h : Pass G k r0 r) (hv : Hx.inSet (bset r) (nbsOf G v) < k) : Pass G k r0 (r.set v false) := by
  refine ⟨by simp [h.len], fun x hx => ?_, fun S hS hs x hx => ?_⟩
  · rw [bset_setF] at hx
    split at hx
    · cases hx
    · exact h.sub x hx
  · rw [bset_setF]
    have h1 := h.top S hS hs
    split
    · rename_i e
      rw [← e.1] at hx
      have := (hS v hx).2
      have := Hx.inSet_mono (S := S) (S' := bset r) (l := nbsOf G v) (fun u _ q => h1 _ q)
      omega
    · exact h1 x hx
namespace shrunk6
theorem F4_is {G : Gr} (hG : G.Ok) (hn : G.n ≤ 16777216) {k : Int} {r0 : List Bool} (h0 : r0.length = G.n) :
    ∃ (went : Bool) (r : List Bool), F4 (some (rowsOf G)) k false 0 0 r0 = some ((some (rowsOf G), k, went, (r.count true : Int), ()), (r, ())) ∧ Pass G k r0 r ∧ (went = false → r = r0 ∧ Hx.Dense G.n (nbsOf G) (bset r) k) ∧ (went = true → r.count true < r0.count true) := by
  have key := F4_inv (g0 := some (rowsOf G)) (k2 := k)
    (fun went left v r => ∃ j : Nat, v = (j : Int) ∧ j ≤ G.n ∧ left = ((r.take j).count true : Int) ∧ Pass G k r0 r ∧ (went = false → r = r0 ∧ ∀ x, x < j → bset r x = true → k ≤ Hx.inSet (bset r) (nbsOf G x)) ∧ (went = true → r.count true < r0.count true))
    (fun _ _ v _ => G.n - v.toNat)
    (fun z => ∃ (went : Bool) (r : List Bool), z = ((some (rowsOf G), k, went, (r.count true : Int), ()), (r, ())) ∧ Pass G k r0 r ∧ (went = false → r = r0 ∧ Hx.Dense G.n (nbsOf G) (bset r) k) ∧ (went = true → r.count true < r0.count true))
    (fun went left v r hI => by
      obtain ⟨j, rfl, hj, rfl, hP, hw0, hw1⟩ := hI
      have hl := hP.len
      unfold R4
      refine led_dif (fun q1 => ?_) (fun q1 => led_x ?_)
      · have hjl : j < r.length := by omega
        have hwr : IntKind.wrap .i64 ((j : Int) + 1) = (j : Int) + 1 := wr (by omega) (by omega)
        have hc := List.count_le_length (a := true) (l := r.take j)
        rw [List.length_take] at hc
        have hwr2 : IntKind.wrap .i64 (((r.take j).count true : Int) + 1) = ((r.take j).count true : Int) + 1 := wr (by omega) (by omega)
        have a1 : (0 : Int) ≤ (j : Int) := by omega
        have a2 : (j : Int) < ((r.set j false).length : Int) := by rw [List.length_set]; omega
        have tk := take_snoc false r j hjl
        have tn : ((j : Int) + 1).toNat = j + 1 := by omega
        have th := there6.is hG hn (l := r) hl (v := j)
        simp only [Int.toNat_natCast, hwr, hwr2, a1, a2, q1, hjl, th.1, th.2, if_true]
        cases hb : r.getD j false with
        | true =>
          simp only [if_true]
          by_cases hk : Hx.inSet (bset r) (nbsOf G j) < k
          · have g1 : (r.set j false).getD j false = false := by rw [Hx.getD_setG, if_pos ⟨rfl, hjl⟩]
            have g2 := count_setF r j hb
            have g3 : (r.set j false).take (j + 1) = r.take j ++ [false] := by
              rw [take_snoc false _ j (by rw [List.length_set]; exact hjl), g1]
              congr 1
              exact List.take_set_of_le (by omega)
            simp only [hk, decide_true, g1, Bool.false_eq_true, if_true, if_false]
            refine led_k ⟨_, _, _, _, rfl, ⟨j + 1, by omega, by omega, by rw [g3]; simp, hP.drop hk, fun e => (by cases e), fun _ => ?_⟩, by omega⟩
            cases went with
            | true => have := hw1 rfl; omega
            | false => have := (hw0 rfl).1; subst this; omega
          · simp only [hk, decide_false, Bool.false_eq_true, if_false]
            refine led_k ⟨_, _, _, _, rfl, ⟨j + 1, by omega, by omega, by rw [tk, hb]; simp, hP, fun e => ⟨(hw0 e).1, fun x hx hbx => ?_⟩, hw1⟩, by omega⟩
            by_cases e2 : x = j
            · subst e2; omega
            · exact (hw0 e).2 x (by omega) hbx
        | false =>
          simp only [Bool.false_eq_true, if_false]
          refine led_k ⟨_, _, _, _, rfl, ⟨j + 1, by omega, by omega, by rw [tk, hb]; simp, hP, fun e => ⟨(hw0 e).1, fun x hx hbx => ?_⟩, hw1⟩, by omega⟩
          by_cases e2 : x = j
          · subst e2
            have : bset r x = false := hb
            rw [this] at hbx
            cases hbx
          · exact (hw0 e).2 x (by omega) hbx
      · refine ⟨went, r, by rw [List.take_of_length_le (by omega)], hP, fun e => ⟨(hw0 e).1, fun u hu => ?_⟩, hw1⟩
        have hun : u < G.n := by
          rcases Nat.lt_or_ge u G.n with q | q
          · exact q
          · have : bset r u = false := by show r.getD u false = false; rw [List.getD_eq_getElem?_getD, List.getElem?_eq_none (by omega)]; rfl
            rw [this] at hu; cases hu
        exact ⟨hun, (hw0 e).2 u (by omega) hu⟩) false 0 0 r0 ⟨0, rfl, by omega, by simp, Pass.refl h0, fun _ => ⟨rfl, fun x hx => absurd hx (Nat.not_lt_zero x)⟩, fun e => by cases e⟩
  obtain ⟨z, hz, went, r, rfl, h⟩ := key
  exact ⟨went, r, hz, h⟩
theorem is {G : Gr} (hG : G.Ok) (hn : G.n ≤ 16777216) {k : Int} {r0 : List Bool} (h0 : r0.length = G.n) :
    ∃ r, (pre (some (rowsOf G)) r0 k = true ∧ fn (some (rowsOf G)) r0 k = (r, (r.count true : Int), ())) ∧ Pass G k r0 r ∧ Hx.Dense G.n (nbsOf G) (bset r) k := by
  have key := F1_inv (g0 := some (rowsOf G)) (k2 := k) (fun r => Pass G k r0 r) (fun r => r.count true)
    (fun z => ∃ r : List Bool, z = (((r.count true : Int), ()), (r, ())) ∧ Pass G k r0 r ∧ Hx.Dense G.n (nbsOf G) (bset r) k) (fun r hI => by
      obtain ⟨went, r', h1, h2, h3, h4⟩ := F4_is hG hn (k := k) hI.len
      unfold R1
      simp only [h1]
      cases went with
      | false =>
        simp only [Bool.not_false, if_true]
        exact led_x ⟨r', rfl, hI.trans h2, (h3 rfl).2⟩
      | true =>
        simp only [Bool.not_true, Bool.false_eq_true, if_false]
        exact led_k ⟨_, rfl, hI.trans h2, h4 rfl⟩) r0 (Pass.refl h0)
  obtain ⟨z, hz, r, rfl, h1, h2⟩ := key
  refine ⟨r, is_fn _ _ _ ?_, h1, h2⟩
  unfold run'
  rw [hz]
end shrunk6
namespace Cores6
theorem F7_is {G : Gr} (hn : G.n ≤ 16777216) (g : Option (List (List Int))) {k : Int} {r : List Bool} (hr : r.length = G.n) {c : List Int} (hc : c.length = G.n) :
    ∃ c', F7 g k 0 r c = some ((g, k, ()), (r, c', ())) ∧ c'.length = G.n ∧ ∀ x, x < G.n → c'.getD x 0 = if bset r x = true then k else c.getD x 0 := by
  have key := F7_inv (g0 := g) (k5 := k) (r0 := r) (fun v c' => ∃ j : Nat, v = (j : Int) ∧ j ≤ G.n ∧ c'.length = G.n ∧ ∀ x, x < G.n → c'.getD x 0 = if x < j ∧ bset r x = true then k else c.getD x 0) (fun v _ => G.n - v.toNat)
    (fun z => ∃ c', z = ((g, k, ()), (r, c', ())) ∧ c'.length = G.n ∧ ∀ x, x < G.n → c'.getD x 0 = if bset r x = true then k else c.getD x 0) (fun v c' hI => by
      obtain ⟨j, rfl, hj, hl, hx⟩ := hI
      unfold R7
      refine led_dif (fun q1 => ?_) (fun q1 => led_x ⟨c', rfl, hl, fun x hxn => ?_⟩)
      · have hjl : j < c'.length := by omega
        have hw : IntKind.wrap .i64 ((j : Int) + 1) = (j : Int) + 1 := wr (by omega) (by omega)
        have a1 : (0 : Int) ≤ (j : Int) := by omega
        have a2 : (j : Int) < (c'.length : Int) := by omega
        simp only [Int.toNat_natCast, hw, a1, a2, q1, hjl, if_true]
        cases hb : r.getD j false with
        | true =>
          simp only [if_true]
          refine led_k ⟨_, _, rfl, ⟨j + 1, by omega, by omega, by simpa using hl, fun x hxn => ?_⟩, by omega⟩
          rw [Hx.getD_set]
          by_cases e : j = x
          · subst e
            rw [if_pos ⟨rfl, hjl⟩, if_pos ⟨by omega, hb⟩]
          · rw [if_neg (fun q => e q.1), hx x hxn]
            by_cases h2 : x < j
            · simp only [h2, show x < j + 1 by omega]
            · simp only [h2, show ¬ x < j + 1 by omega]
        | false =>
          simp only [Bool.false_eq_true, if_false]
          refine led_k ⟨_, _, rfl, ⟨j + 1, by omega, by omega, hl, fun x hxn => ?_⟩, by omega⟩
          rw [hx x hxn]
          by_cases e : j = x
          · subst e
            have hb' : ¬ bset r j = true := by show ¬ r.getD j false = true; rw [hb]; simp
            rw [if_neg (fun q => hb' q.2), if_neg (fun q => hb' q.2)]
          · by_cases h2 : x < j
            · simp only [h2, show x < j + 1 by omega]
            · simp only [h2, show ¬ x < j + 1 by omega]
      · rw [hx x hxn]
        simp only [show x < j by omega, true_and]) 0 c ⟨0, rfl, by omega, hc, fun x hxn => by simp⟩
  obtain ⟨z, hz, c', rfl, h⟩ := key
  exact ⟨c', hz, h⟩
theorem count_none {r : List Bool} (h : ¬ ((r.count true : Int) > 0)) (x : Nat) : bset r x = false := by
  have h0 : r.count true = 0 := by omega
  rw [List.count_eq_zero] at h0
  cases hb : bset r x with
  | false => rfl
  | true =>
    exfalso
    have hb' : r.getD x false = true := hb
    rw [List.getD_eq_getElem?_getD] at hb'
    cases hx : r[x]? with
    | none => rw [hx] at hb'; cases hb'
    | some y =>
      rw [hx] at hb'
      have : y = true := hb'
      subst this
      exact h0 (List.mem_of_getElem? hx)
theorem count_some {r : List Bool} (h : (r.count true : Int) > 0) : ∃ x, bset r x = true := by
  have h0 : 0 < r.count true := by omega
  obtain ⟨x, hx⟩ := List.getElem?_of_mem (List.count_pos_iff.1 h0)
  exact ⟨x, by show r.getD x false = true; rw [List.getD_eq_getElem?_getD, hx]; rfl⟩
theorem cores {G : Gr} (hG : G.Ok) (hn : G.n ≤ 16777216) : ∃ c, F4 (some (rowsOf G)) 1 (List.replicate G.n true) (List.replicate G.n 0) = some ((), (c, ())) ∧ Hx.IsCores G.n (nbsOf G) c := by
  have key := F4_inv (g0 := some (rowsOf G))
    (fun k r c => ∃ kk : Nat, k = (kk : Int) + 1 ∧ kk ≤ G.n ∧ r.length = G.n ∧ c.length = G.n ∧ (∀ v, bset r v = true ↔ Hx.InCore G.n (nbsOf G) kk v) ∧ ∀ v, v < G.n → 0 ≤ c.getD v 0 ∧ Hx.InCore G.n (nbsOf G) (c.getD v 0) v ∧ (bset r v = false → ¬ Hx.InCore G.n (nbsOf G) (c.getD v 0 + 1) v) ∧ (bset r v = true → c.getD v 0 = kk))
    (fun k _ _ => (G.n + 2 - k).toNat)
    (fun z => ∃ c, z = ((), (c, ())) ∧ Hx.IsCores G.n (nbsOf G) c) (fun k r c hI => by
      obtain ⟨kk, rfl, hk, hr, hc, hin, hv⟩ := hI
      obtain ⟨r', h1, h2, h3⟩ := shrunk6.is hG hn (k := (kk : Int) + 1) hr
      have hin' : ∀ v, bset r' v = true ↔ Hx.InCore G.n (nbsOf G) ((kk : Int) + 1) v := fun v => by
        refine ⟨fun h => ⟨bset r', h, h3⟩, fun ⟨S, hS, hD⟩ => ?_⟩
        exact h2.top S hD (fun x hx => (hin x).2 (Hx.InCore.mono ⟨S, hx, hD⟩ (by omega))) v hS
      unfold R4
      simp only [h1.1, h1.2, if_true]
      refine led_dif (fun q1 => ?_) (fun q1 => led_x ⟨c, rfl, ?_⟩)
      · obtain ⟨x, hx⟩ := count_some q1
        have hx2 := ((hin' x).1 hx).lt
        have hlb := G.nb_length_le x
        have hkn : kk + 1 ≤ G.n := by
          have := hx2.2
          rw [show (nbsOf G x).length = (G.nb x).length from up_length _] at this
          omega
        obtain ⟨c', g1, g2, g3⟩ := F7_is hn (some (rowsOf G)) (k := (kk : Int) + 1) h2.len hc
        have hw : IntKind.wrap .i64 ((kk : Int) + 1 + 1) = (kk : Int) + 1 + 1 := wr (by omega) (by omega)
        simp only [g1, hw]
        refine led_k ⟨_, _, _, rfl, ⟨kk + 1, by omega, hkn, h2.len, g2, fun v => by rw [hin' v]; simp, fun v hvn => ?_⟩, by omega⟩
        obtain ⟨e1, e2, e3, e4⟩ := hv v hvn
        rw [g3 v hvn]
        cases hb : bset r' v with
        | true =>
          simp only [if_true]
          exact ⟨by omega, (hin' v).1 hb, fun h => (by cases h), fun _ => by omega⟩
        | false =>
          simp only [Bool.false_eq_true, if_false]
          refine ⟨e1, e2, fun _ => ?_, fun h => (by cases h)⟩
          cases hb0 : bset r v with
          | false => exact e3 hb0
          | true =>
            rw [e4 hb0]
            intro h
            rw [(hin' v).2 h] at hb
            cases hb
      · refine ⟨hc, fun v hvn => (hv v hvn).1, fun v hvn => (hv v hvn).2.1, fun v hvn => ?_⟩
        obtain ⟨e1, e2, e3, e4⟩ := hv v hvn
        cases hb0 : bset r v with
        | false => exact e3 hb0
        | true =>
          rw [e4 hb0]
          intro h
          have h4 := (hin' v).2 h
          rw [count_none q1 v] at h4
          cases h4) 1 (List.replicate G.n true) (List.replicate G.n 0) ⟨0, rfl, by omega, by simp, by simp, fun v => ?_, fun v hvn => ?_⟩
  · obtain ⟨z, hz, c, rfl, h⟩ := key
    exact ⟨c, hz, h⟩
  · refine ⟨fun h => ?_, fun h => ?_⟩
    · have : v < G.n := by
        rcases Nat.lt_or_ge v G.n with q | q
        · exact q
        · have e : bset (List.replicate G.n true) v = false := by show (List.replicate G.n true).getD v false = false; rw [List.getD_eq_getElem?_getD, List.getElem?_eq_none (by simpa using q)]; rfl
          rw [e] at h; cases h
      exact Hx.inCore_zero this
    · have := h.lt.1
      show (List.replicate G.n true).getD v false = true
      simp [List.getD_eq_getElem?_getD, this]
  · have e : (List.replicate G.n (0 : Int)).getD v 0 = 0 := Hx.getD_rep _ _ _
    rw [e]
    refine ⟨Int.le_refl _, Hx.inCore_zero hvn, fun h => ?_, fun _ => rfl⟩
    · have e2 : bset (List.replicate G.n true) v = true := by show (List.replicate G.n true).getD v false = true; simp [List.getD_eq_getElem?_getD, hvn]
      rw [e2] at h
      exact absurd h (by simp)
theorem is {G : Gr} (hG : G.Ok) (hn : G.n ≤ 16777216) : pre (some (rowsOf G)) = true ∧ fn (some (rowsOf G)) = (coresOf G, ()) := by
  obtain ⟨c, h1, h2⟩ := cores hG hn
  have room : G.n * 8 ≤ 140737488355328 := by omega
  have a1 : (0 : Int) ≤ (G.n : Int) := by omega
  refine is_fn _ ?_
  unfold run'
  simp only [(N5.is G).1, (N5.is G).2, (all6.is hn).1, (all6.is hn).2, a1, room, Int.toNat_natCast, h1, coresOf_is h2, if_true]
end Cores6
theorem coresOf_ok {G : Gr} (hG : G.Ok) (hn : G.n ≤ 16777216) : Hx.IsCores G.n (nbsOf G) (coresOf G) := by
  obtain ⟨c, _, h2⟩ := Cores6.cores hG hn
  rw [coresOf_is h2]
  exact h2
end Go.Proofs.Ythbojpaghbbnnaa.Z
namespace Go.Proofs.Ythbojpaghbbnnaa.Z
open Go Go.RowKit
set_option linter.unusedVariables false
set_option linter.unusedSimpArgs false
theorem num6.is (e : Int) : num6.pre e = true ∧ num6.fn e = (e, ()) := num6.is_fn _ rfl
abbrev l6 : List (Int × Int) := [(0, 1), (0, 2), (1, 2), (2, 3), (3, 4)]
theorem chap6.is : chap6.pre = true ∧ chap6.fn = (l6, ()) := chap6.is_fn rfl
theorem tmod_n (x : Int) : -121 < Int.tmod x 121 ∧ Int.tmod x 121 < 121 := by
  have g1 := Int.tmod_lt_of_pos x (show (0 : Int) < 121 by omega)
  have := Int.tmod_lt_of_pos (-x) (show (0 : Int) < 121 by omega)
  rw [Int.neg_tmod] at this
  omega
namespace made6
theorem F4_is {N : Nat} (hN : N ≤ 120) (l : List (Int × Int)) : ∃ r, F4 (N : Int) l 0 [] = some (((N : Int), ()), (r, ())) ∧ r.length ≤ 2000 ∧ prsOk (N : Int) r = true := by
  have key := F4_inv (n0 := (N : Int)) (l1 := l) (fun i r => ∃ k : Nat, i = (k : Int) ∧ k ≤ 2000 ∧ r.length ≤ k ∧ prsOk (N : Int) r = true) (fun i _ => 2000 - i.toNat)
    (fun z => ∃ r, z = (((N : Int), ()), (r, ())) ∧ r.length ≤ 2000 ∧ prsOk (N : Int) r = true) (fun i r hI => by
      obtain ⟨k, rfl, hk, hr, hp⟩ := hI
      unfold R4
      refine led_dif (fun q1 => ?_) (fun q1 => led_x ⟨r, rfl, by omega, hp⟩)
      refine led_dif (fun q2 => ?_) (fun q2 => led_x ⟨r, rfl, by omega, hp⟩)
      have hw : IntKind.wrap .i64 ((k : Int) + 1) = (k : Int) + 1 := wr (by omega) (by omega)
      have a1 : (0 : Int) ≤ (k : Int) := by omega
      obtain ⟨p, hp2⟩ : ∃ p, l.getD k (0, 0) = p := ⟨_, rfl⟩
      have room : (r.length + [p].length) * 16 ≤ 140737488355328 := by simp; omega
      have no : Led (fun (R : Type) (k' : V4 → Option R) (kx : X4 → Option R) => k' (((N : Int), l, (k : Int) + 1, ()), (r, ()))) (fun v => ∃ (i7' : Int) (r0' : List (Int × Int)), v = (((N : Int), l, i7', ()), (r0', ())) ∧ (∃ k : Nat, i7' = (k : Int) ∧ k ≤ 2000 ∧ r0'.length ≤ k ∧ prsOk (N : Int) r0' = true) ∧ 2000 - i7'.toNat < 2000 - ((k : Nat) : Int).toNat) (fun z => ∃ r, z = (((N : Int), ()), (r, ())) ∧ r.length ≤ 2000 ∧ prsOk (N : Int) r = true) := led_k ⟨_, _, rfl, ⟨k + 1, by omega, by omega, by omega, hp⟩, by omega⟩
      simp only [Int.toNat_natCast, hw, a1, q1, hp2, room, if_true]
      refine led_dif (fun c1 => ?_) (fun c1 => no)
      refine led_dif (fun c2 => ?_) (fun c2 => no)
      refine led_dif (fun c3 => ?_) (fun c3 => no)
      refine led_dif (fun c4 => ?_) (fun c4 => no)
      refine led_k ⟨_, _, rfl, ⟨k + 1, by omega, by omega, by simp; omega, ?_⟩, by omega⟩
      unfold prsOk at hp ⊢
      rw [List.all_append, hp]
      simp only [Bool.true_and, List.all_cons, List.all_nil, Bool.and_true, Int.toNat_natCast]
      exact okP_iff.2 ⟨⟨by omega, by omega⟩, by omega, by omega⟩) 0 [] ⟨0, rfl, by omega, by simp, rfl⟩
  obtain ⟨z, hz, r, rfl, h⟩ := key
  exact ⟨r, hz, h⟩
theorem is (n : Int) (l : List (Int × Int)) : ∃ G : Gr, G.Ok ∧ G.n ≤ 120 ∧ pre n l = true ∧ fn n l = (some G, some (rowsOf G), ()) := by
  have t1 := tmod_n n
  have w1 : IntKind.wrap .i64 (Int.tmod n 121 + 120) = Int.tmod n 121 + 120 := wr (by omega) (by omega)
  have w2 : IntKind.wrap .i64 (Int.tmod n 121 + 120 + 1) = Int.tmod n 121 + 120 + 1 := wr (by omega) (by omega)
  have t2 := Int.tmod_lt_of_pos (Int.tmod n 121 + 120 + 1) (show (0 : Int) < 121 by omega)
  have t3 := Int.tmod_nonneg 121 (show 0 ≤ Int.tmod n 121 + 120 + 1 by omega)
  obtain ⟨N, hN⟩ : ∃ N : Nat, Int.tmod (Int.tmod n 121 + 120 + 1) 121 = (N : Int) := ⟨(Int.tmod (Int.tmod n 121 + 120 + 1) 121).toNat, by omega⟩
  rw [hN] at t2
  obtain ⟨r, h1, h2, h3⟩ := F4_is (N := N) (by omega) l
  have hi : inN (N : Int) = true := by simp [inN]; omega
  have k := Make5.is (n := (N : Int)) (l := r) (by omega)
  have hO : (Gr.ofPairs N r).Ok := ofPairs_ok (by omega) (fun p hp => List.all_eq_true.1 h3 p hp)
  refine ⟨Gr.ofPairs N r, hO, (show N ≤ 120 by omega), is_fn _ _ ?_⟩
  unfold run'
  rw [w1, w2, hN, h1]
  simp only [Make.pre, Make.fn, k.1, k.2, hi, h3, (num6.is _).1, (num6.is _).2, if_true, Int.toNat_natCast]
  simp
end made6
end Go.Proofs.Ythbojpaghbbnnaa.Z
namespace Go.Proofs.Ythbojpaghbbnnaa.Z
open Go Go.RowKit
set_option linter.unusedVariables false
set_option linter.unusedSimpArgs false
/-- How many neighbours each one has that have not gone. -/
def leftsOf (G : Gr) (gone : List Bool) : List Int := (List.range G.n).map (fun u => Hx.inSet (Hx.here gone) (nbsOf G u))
theorem leftsOf_len (G : Gr) (gone : List Bool) : (leftsOf G gone).length = G.n := by simp [leftsOf]
theorem leftsOf_at {G : Gr} {gone : List Bool} {u : Nat} (hu : u < G.n) : (leftsOf G gone).getD u 0 = Hx.inSet (Hx.here gone) (nbsOf G u) := by
  simp [leftsOf, List.getD_eq_getElem?_getD, hu]
theorem degs_lefts (G : Gr) : degs G = leftsOf G (List.replicate G.n false) := by
  unfold degs leftsOf
  refine List.map_congr_left (fun u hu => ?_)
  rw [Hx.inSet_all _ _ (fun x _ => by unfold Hx.here; rw [Hx.getD_rep]; rfl), up_length]
theorem goesP.is {G : Gr} (hG : G.Ok) (hn : G.n ≤ 4096) {gone : List Bool} (hl : gone.length = G.n) {v : Nat} (hv : v < G.n) (hg : gone.getD v false = false) {m : Int} (hm : -1099511627776 ≤ m ∧ m ≤ 1099511627776) :
    goesP.pre (some G) (leftsOf G gone) gone m (v : Int) = true ∧ goesP.fn (some G) (leftsOf G gone) gone m (v : Int) = ((some G, leftsOf G (gone.set v true), gone.set v true, m - 1, false), ()) := by
  have hN := nbs_G hG
  have key := goesP.F3_inv (t24 := up (G.nb v)) (t25 := ((up (G.nb v)).length : Int)) (c0x0 := some G) (c0x3 := m - 1) (r2 := gone.set v true)
    (fun t r => ∃ j : Nat, t = (j : Int) ∧ j ≤ (G.nb v).length ∧ r.length = G.n ∧ ∀ u, u < G.n → r.getD u 0 = Hx.inSet (Hx.here gone) (nbsOf G u) - if (u : Int) ∈ (up (G.nb v)).take j then 1 else 0)
    (fun t _ => (G.nb v).length - t.toNat)
    (fun z => z = ((), ((some G, m - 1, ()), leftsOf G (gone.set v true), gone.set v true, ()))) (fun t r hI => by
      obtain ⟨j, rfl, hj, hr, hx⟩ := hI
      have hlen : (up (G.nb v)).length = (G.nb v).length := up_length _
      have hb := G.nb_length_le v
      unfold goesP.R3
      refine led_dif (fun q1 => ?_) (fun q1 => led_x ?_)
      · have hjl : j < (up (G.nb v)).length := by omega
        have hm2 := mem_getD 0 (up (G.nb v)) j hjl
        obtain ⟨x, hx1, hxe⟩ := List.mem_map.1 hm2
        have hxn : x < G.n := hG.rng' ((Gr.mem_nb hG).1 hx1)
        have hw : IntKind.wrap .i64 ((j : Int) + 1) = (j : Int) + 1 := wr (by omega) (by omega)
        have h0 := Hx.inSet_nonneg (Hx.here gone) (nbsOf G x)
        have h1 := Hx.inSet_le (Hx.here gone) (nbsOf G x)
        have h2 := G.nb_length_le x
        rw [show (nbsOf G x).length = (G.nb x).length from up_length _] at h1
        have hxx := hx x hxn
        have hw2 : IntKind.wrap .i64 (r.getD x 0 - 1) = r.getD x 0 - 1 := wr (by rw [hxx]; split <;> omega) (by rw [hxx]; split <;> omega)
        have a1 : (0 : Int) ≤ (j : Int) := by omega
        have a2 : (0 : Int) ≤ (x : Int) := by omega
        have a3 : (x : Int) < (r.length : Int) := by omega
        have a4 : x < r.length := by omega
        have a5 : (j : Int) < ((up (G.nb v)).length : Int) := by omega
        have tk := take_snoc 0 (up (G.nb v)) j hjl
        rw [← hxe] at tk
        have hnd := hN.nodup v hv
        have hnx : (x : Int) ∉ (up (G.nb v)).take j := fun hmem => by
          have hnd2 : ((up (G.nb v)).take (j + 1)).Nodup := List.Pairwise.take hnd
          rw [tk] at hnd2
          exact (List.nodup_append.1 hnd2).2.2 _ hmem _ (by simp) rfl
        simp only [Int.toNat_natCast, ← hxe, hw, hw2, a1, a2, a3, a4, a5, if_true]
        refine led_k ⟨_, _, rfl, ⟨j + 1, by omega, by omega, by simpa using hr, fun u hu => ?_⟩, by omega⟩
        rw [Hx.getD_set, tk]
        by_cases e : x = u
        · subst e
          rw [if_pos ⟨rfl, a4⟩, hxx, if_neg hnx, if_pos (by simp)]
          omega
        · rw [if_neg (fun q => e q.1), hx u hu]
          have : ((u : Int) ∈ (up (G.nb v)).take j ++ [(x : Int)]) ↔ (u : Int) ∈ (up (G.nb v)).take j := by
            rw [List.mem_append, List.mem_singleton]
            exact ⟨fun q => q.elim id (fun q => absurd q (by omega)), .inl⟩
          simp only [this]
      · have e : r = leftsOf G (gone.set v true) := Hx.list_ext_getD (by rw [hr, leftsOf_len]) (fun u hu => by
          rw [hr] at hu
          rw [hx u hu, leftsOf_at hu, List.take_of_length_le (by omega), Hx.inSet_here (hN.nodup u hu) (fun x hx => (hN.rng u hu x hx).1) (by omega) hg]
          have : ((v : Int) ∈ nbsOf G u) ↔ ((u : Int) ∈ up (G.nb v)) := ⟨hN.symm v u hv hu, hN.symm u v hu hv⟩
          simp only [this]
          exact Int.add_sub_cancel _ _)
        rw [e]) 0 (leftsOf G gone) ⟨0, rfl, by omega, leftsOf_len _ _, fun u hu => by rw [leftsOf_at hu]; simp⟩
  obtain ⟨z, hz, rfl⟩ := key
  refine goesP.is_fn _ _ _ _ _ ?_
  unfold goesP.run'
  have hw : IntKind.wrap .i64 (m - 1) = m - 1 := wr (by omega) (by omega)
  have a1 : (0 : Int) ≤ (v : Int) := by omega
  have a2 : (v : Int) < (gone.length : Int) := by omega
  have a3 : v < gone.length := by omega
  have wv : wf (v : Int) = true := wf_iff.2 ⟨by omega, by omega⟩
  have hnb : Neighbours.fn (some G) (v : Int) = (up (G.nb v), ()) := by
    unfold Neighbours.fn
    rw [gr_some, nbz_at]
  simp only [Neighbours.pre, hnb, Option.isSome_some, Int.toNat_natCast, hw, a1, a2, a3, hz, if_true]
/-- The least number of neighbours of those below j that have not gone; n, if there is none. -/
def leastTo (n : Nat) (left : List Int) (gone : List Bool) (j : Nat) : Int := (List.range j).foldl (fun k u => if gone.getD u false = true then k else if left.getD u 0 < k then left.getD u 0 else k) (n : Int)
theorem leastTo_succ (n : Nat) (left : List Int) (gone : List Bool) (j : Nat) : leastTo n left gone (j + 1) = if gone.getD j false = true then leastTo n left gone j else if left.getD j 0 < leastTo n left gone j then left.getD j 0 else leastTo n left gone j := by
  unfold leastTo
  rw [List.range_succ, List.foldl_append]
  rfl
theorem leastP.is {G : Gr} (hG : G.Ok) (hn : G.n ≤ 4096) {left : List Int} {gone : List Bool} (hll : left.length = G.n) (hl : gone.length = G.n) (m : Int) :
    leastP.pre (some G) left gone m = true ∧ leastP.fn (some G) left gone m = ((some G, left, gone, m, false), leastTo G.n left gone G.n, ()) := by
  have key := leastP.F3_inv (t15 := (gone.length : Int)) (c0x0 := some G) (c0x3 := m) (r1 := left) (r2 := gone)
    (fun k t => ∃ j : Nat, t = (j : Int) ∧ j ≤ G.n ∧ k = leastTo G.n left gone j) (fun _ t => G.n - t.toNat)
    (fun z => z = ((leastTo G.n left gone G.n, ()), ((some G, m, ()), left, gone, ()))) (fun k t hI => by
      obtain ⟨j, rfl, hj, rfl⟩ := hI
      unfold leastP.R3
      refine led_dif (fun q1 => ?_) (fun q1 => led_x ?_)
      · have hw : IntKind.wrap .i64 ((j : Int) + 1) = (j : Int) + 1 := wr (by omega) (by omega)
        have a1 : (0 : Int) ≤ (j : Int) := by omega
        have a2 : (j : Int) < (left.length : Int) := by omega
        have e := leastTo_succ G.n left gone j
        simp only [Int.toNat_natCast, hw, a1, a2, q1, if_true]
        cases hb : gone.getD j false with
        | true =>
          simp only [Bool.not_true, Bool.false_eq_true, if_false]
          rw [if_pos hb] at e
          exact led_k ⟨_, _, rfl, ⟨j + 1, by omega, by omega, e.symm⟩, by omega⟩
        | false =>
          simp only [Bool.not_false, if_true]
          rw [if_neg (by rw [hb]; simp)] at e
          exact led_k ⟨_, _, rfl, ⟨j + 1, by omega, by omega, e.symm⟩, by omega⟩
      · obtain rfl : j = G.n := by omega
        rfl) (G.n : Int) 0 ⟨0, rfl, by omega, rfl⟩
  obtain ⟨z, hz, rfl⟩ := key
  refine leastP.is_fn _ _ _ _ ?_
  unfold leastP.run'
  simp only [N.pre, N.fn, gr_some, Option.isSome_some, hz, if_true]
def goOne (G : Gr) (k : Int) (s : List Bool × List Int) (u : Nat) : List Bool × List Int := if s.1.getD u false = false ∧ Hx.inSet (Hx.here s.1) (nbsOf G u) ≤ k then (s.1.set u true, s.2 ++ [(u : Int)]) else s
def passTo (G : Gr) (k : Int) (s : List Bool × List Int) (j : Nat) : List Bool × List Int := (List.range j).foldl (goOne G k) s
theorem passTo_succ (G : Gr) (k : Int) (s : List Bool × List Int) (j : Nat) : passTo G k s (j + 1) = goOne G k (passTo G k s j) j := by
  unfold passTo
  rw [List.range_succ, List.foldl_append]
  rfl
theorem count_setT : ∀ (l : List Bool) (v : Nat), v < l.length → l.getD v false = false → (l.set v true).count true = l.count true + 1
  | [], v, hv, h => by simp at hv
  | x :: l, 0, hv, h => by
    have : x = false := by simpa using h
    subst this
    simp
  | x :: l, v + 1, hv, h => by
    have ih := count_setT l v (by simpa using hv) (by simpa using h)
    cases x <;> simp only [List.set_cons_succ, List.count_cons] <;> omega
/-- Those that have gone are as many as stand in the order. -/
def Even (G : Gr) (s : List Bool × List Int) : Prop := s.1.length = G.n ∧ s.1.count true = s.2.length
theorem Even.le {G : Gr} {s : List Bool × List Int} (h : Even G s) : s.2.length ≤ G.n := by
  have := List.count_le_length (a := true) (l := s.1)
  rw [← h.2, ← h.1]
  exact this
theorem Even.go {G : Gr} {k : Int} {s : List Bool × List Int} (h : Even G s) {u : Nat} (hu : u < G.n) : Even G (goOne G k s u) := by
  unfold goOne
  split
  · rename_i c
    exact ⟨by simpa using h.1, by simp only [List.length_append, List.length_singleton]; rw [count_setT _ _ (by rw [h.1]; exact hu) c.1, h.2]⟩
  · exact h
theorem OrderP.F7_is {G : Gr} (hG : G.Ok) (hn : G.n ≤ 4096) {k was : Int} {s : List Bool × List Int} (hs : Even G s) :
    OrderP.F7 k was (G.n : Int) 0 (some G) ((G.n : Int) - s.2.length) s.2 s.1 (leftsOf G s.1) = some ((k, was, ()), ((some G, (G.n : Int) - (passTo G k s G.n).2.length, ()), (passTo G k s G.n).2, leftsOf G (passTo G k s G.n).1, (passTo G k s G.n).1, ())) ∧ Even G (passTo G k s G.n) := by
  have key := OrderP.F7_inv (k5 := k) (was6 := was) (t24 := (G.n : Int))
    (fun t c m r1 r2 r3 => ∃ j : Nat, t = (j : Int) ∧ j ≤ G.n ∧ c = some G ∧ Even G (passTo G k s j) ∧ m = (G.n : Int) - (passTo G k s j).2.length ∧ r1 = (passTo G k s j).2 ∧ r2 = (passTo G k s j).1 ∧ r3 = leftsOf G (passTo G k s j).1)
    (fun t _ _ _ _ _ => G.n - t.toNat)
    (fun z => z = ((k, was, ()), ((some G, (G.n : Int) - (passTo G k s G.n).2.length, ()), (passTo G k s G.n).2, leftsOf G (passTo G k s G.n).1, (passTo G k s G.n).1, ())) ∧ Even G (passTo G k s G.n)) (fun t c m r1 r2 r3 hI => by
      obtain ⟨j, rfl, hj, rfl, hE, rfl, rfl, rfl, rfl⟩ := hI
      obtain ⟨p, hp⟩ : ∃ p, p = passTo G k s j := ⟨_, rfl⟩
      have e := passTo_succ G k s j
      rw [← hp] at hE e ⊢
      have hle := hE.le
      unfold OrderP.R7
      refine led_dif (fun q1 => ?_) (fun q1 => led_x ?_)
      · have hjn : j < G.n := by omega
        have hE2 := hE.go (k := k) hjn
        have hw : IntKind.wrap .i64 ((j : Int) + 1) = (j : Int) + 1 := wr (by omega) (by omega)
        have a1 : (0 : Int) ≤ (j : Int) := by omega
        have a2 : (j : Int) < (p.1.length : Int) := by rw [hE.1]; omega
        have a3 : (j : Int) < ((leftsOf G p.1).length : Int) := by rw [leftsOf_len]; omega
        simp only [Int.toNat_natCast, hw, a1, a2, a3, leftsOf_at hjn, if_true]
        cases hb : p.1.getD j false with
        | true =>
          have e2 : goOne G k p j = p := by unfold goOne; rw [if_neg (fun q => by rw [hb] at q; cases q.1)]
          rw [e2] at e
          simp only [Bool.not_true, Bool.false_eq_true, if_false]
          exact led_k ⟨_, _, _, _, _, _, rfl, ⟨j + 1, by omega, by omega, rfl, by rw [e]; exact hE, by rw [e], by rw [e], by rw [e], by rw [e]⟩, by omega⟩
        | false =>
          simp only [Bool.not_false, if_true]
          by_cases hk : Hx.inSet (Hx.here p.1) (nbsOf G j) ≤ k
          · have e2 : goOne G k p j = (p.1.set j true, p.2 ++ [(j : Int)]) := by unfold goOne; rw [if_pos ⟨hb, hk⟩]
            rw [e2] at e hE2
            have g := goesP.is hG hn hE.1 hjn hb (m := (G.n : Int) - p.2.length) ⟨by omega, by omega⟩
            have room : (p.2.length + [(j : Int)].length) * 8 ≤ 140737488355328 := by simp; omega
            simp only [hk, decide_true, g.1, g.2, room, if_true]
            refine led_k ⟨_, _, _, _, _, _, rfl, ⟨j + 1, by omega, by omega, rfl, by rw [e]; exact hE2, ?_, by rw [e], by rw [e], by rw [e]⟩, by omega⟩
            rw [e]
            simp only [List.length_append, List.length_singleton]
            omega
          · have e2 : goOne G k p j = p := by unfold goOne; rw [if_neg (fun q => hk q.2)]
            rw [e2] at e
            simp only [hk, decide_false, Bool.false_eq_true, if_false]
            exact led_k ⟨_, _, _, _, _, _, rfl, ⟨j + 1, by omega, by omega, rfl, by rw [e]; exact hE, by rw [e], by rw [e], by rw [e], by rw [e]⟩, by omega⟩
      · obtain rfl : j = G.n := by omega
        rw [hp]
        exact ⟨rfl, by rw [← hp]; exact hE⟩) 0 (some G) _ s.2 s.1 (leftsOf G s.1) ⟨0, rfl, by omega, rfl, hs, rfl, rfl, rfl, rfl⟩
  obtain ⟨z, hz, rfl, h⟩ := key
  exact ⟨hz, h⟩
/-- An order's run: passes, and the least number of neighbours where a pass took nobody. -/
inductive Run (G : Gr) : List Bool × List Int → Int → List Int → Prop
  | done {s : List Bool × List Int} {k : Int} : G.n ≤ s.2.length → Run G s k s.2
  | took {s : List Bool × List Int} {k : Int} {r : List Int} : s.2.length < G.n → (passTo G k s G.n).2.length ≠ s.2.length → Run G (passTo G k s G.n) k r → Run G s k r
  | none {s : List Bool × List Int} {k : Int} {r : List Int} : s.2.length < G.n → (passTo G k s G.n).2.length = s.2.length → Run G (passTo G k s G.n) (leastTo G.n (leftsOf G (passTo G k s G.n).1) (passTo G k s G.n).1 G.n) r → Run G s k r
theorem Run.uniq {G : Gr} {s : List Bool × List Int} {k : Int} {a b : List Int} (h : Run G s k a) : Run G s k b → a = b := by
  induction h with
  | done h1 => intro h; cases h with
    | done h2 => rfl
    | took h2 h3 h4 => omega
    | none h2 h3 h4 => omega
  | took h1 h2 h3 ih => intro h; cases h with
    | done h4 => omega
    | took h4 h5 h6 => exact ih h6
    | none h4 h5 h6 => exact absurd h5 h2
  | none h1 h2 h3 ih => intro h; cases h with
    | done h4 => omega
    | took h4 h5 h6 => exact absurd h2 h5
    | none h4 h5 h6 => exact ih h6
theorem goOne_len (G : Gr) (k : Int) (s : List Bool × List Int) (u : Nat) : s.2.length ≤ (goOne G k s u).2.length ∧ ((goOne G k s u).2.length = s.2.length → goOne G k s u = s) := by
  unfold goOne
  split
  · simp
  · simp
theorem passTo_len (G : Gr) (k : Int) (s : List Bool × List Int) : ∀ j, s.2.length ≤ (passTo G k s j).2.length ∧ ((passTo G k s j).2.length = s.2.length → passTo G k s j = s)
  | 0 => ⟨Nat.le_refl _, fun _ => rfl⟩
  | j + 1 => by
    obtain ⟨h1, h2⟩ := passTo_len G k s j
    rw [passTo_succ]
    obtain ⟨h3, h4⟩ := goOne_len G k (passTo G k s j) j
    refine ⟨by omega, fun h => ?_⟩
    rw [h4 (by omega)]
    exact h2 (by omega)
theorem passTo_mono (G : Gr) (k : Int) (s : List Bool × List Int) {i j : Nat} (h : i ≤ j) : (passTo G k s i).2.length ≤ (passTo G k s j).2.length := by
  induction j with
  | zero => have : i = 0 := by omega
            subst this; exact Nat.le_refl _
  | succ j ih =>
    rcases Nat.lt_or_ge i (j + 1) with q | q
    · have := ih (by omega)
      rw [passTo_succ]
      have := (goOne_len G k (passTo G k s j) j).1
      omega
    · have : i = j + 1 := by omega
      subst this; exact Nat.le_refl _
/-- Somebody who may go goes. -/
theorem pass_takes {G : Gr} {k : Int} {s : List Bool × List Int} {u : Nat} (hu : u < G.n) (hg : s.1.getD u false = false) (hk : Hx.inSet (Hx.here s.1) (nbsOf G u) ≤ k) : (passTo G k s G.n).2.length ≠ s.2.length := fun h => by
  have h1 := passTo_mono G k s (show u + 1 ≤ G.n by omega)
  have h2 := (passTo_len G k s (u + 1)).1
  have h3 := (passTo_len G k s (u + 1)).2 (by omega)
  have h4 := (passTo_len G k s u).2 (by have := passTo_mono G k s (show u ≤ u + 1 by omega); have := (passTo_len G k s u).1; omega)
  rw [passTo_succ, h4] at h3
  unfold goOne at h3
  rw [if_pos ⟨hg, hk⟩] at h3
  have := congrArg (fun x => x.2.length) h3
  simp at this
theorem leastTo_le {n : Nat} {left : List Int} {gone : List Bool} : ∀ {j u : Nat}, u < j → gone.getD u false = false → leastTo n left gone j ≤ left.getD u 0
  | j + 1, u, h, hg => by
    rw [leastTo_succ]
    by_cases e : u = j
    · subst e
      rw [if_neg (by rw [hg]; simp)]
      split <;> omega
    · have ih := leastTo_le (n := n) (left := left) (gone := gone) (j := j) (u := u) (by omega) hg
      split
      · exact ih
      · split <;> omega
theorem leastTo_eq {n : Nat} {left : List Int} {gone : List Bool} : ∀ j : Nat, leastTo n left gone j = n ∨ ∃ u, u < j ∧ gone.getD u false = false ∧ left.getD u 0 = leastTo n left gone j
  | 0 => .inl rfl
  | j + 1 => by
    rw [leastTo_succ]
    have ih := leastTo_eq (n := n) (left := left) (gone := gone) j
    by_cases hj : gone.getD j false = true
    · rw [if_pos hj]
      exact ih.imp id (fun ⟨u, h1, h2, h3⟩ => ⟨u, by omega, h2, h3⟩)
    · rw [if_neg hj]
      have hj' : gone.getD j false = false := by cases h : gone.getD j false with
        | true => exact absurd h hj
        | false => rfl
      by_cases hlt : left.getD j 0 < leastTo n left gone j
      · rw [if_pos hlt]
        exact .inr ⟨j, by omega, hj', rfl⟩
      · rw [if_neg hlt]
        exact ih.imp id (fun ⟨u, h1, h2, h3⟩ => ⟨u, by omega, h2, h3⟩)
theorem exists_left {l : List Bool} (h : l.count true < l.length) : ∃ u, u < l.length ∧ l.getD u false = false := by
  induction l with
  | nil => simp at h
  | cons x l ih =>
    cases x with
    | false => exact ⟨0, by simp, rfl⟩
    | true =>
      simp only [List.count_cons, List.length_cons] at h
      obtain ⟨u, h1, h2⟩ := ih (by simp at h; omega)
      exact ⟨u + 1, by simpa using h1, by simpa using h2⟩
/-- Behind a pass that took nobody the next one takes somebody. -/
theorem least_takes {G : Gr} (hG : G.Ok) {s : List Bool × List Int} (hE : Even G s) (hlt : s.2.length < G.n) : (passTo G (leastTo G.n (leftsOf G s.1) s.1 G.n) s G.n).2.length ≠ s.2.length := by
  obtain ⟨u, h1, h2⟩ := exists_left (l := s.1) (by rw [hE.1, hE.2]; exact hlt)
  rw [hE.1] at h1
  have hb : (leftsOf G s.1).getD u 0 < G.n := by
    rw [leftsOf_at h1]
    have h3 := Hx.inSet_le (Hx.here s.1) (nbsOf G u)
    have h4 : (nbsOf G u).length < G.n := by
      rw [show (nbsOf G u).length = (G.nb u).length from up_length _]
      have hn : (G.nb u).length + 1 ≤ G.n := by
        have hni : u ∉ G.nb u := fun h => by
          have := (Gr.mem_nb hG).1 h
          rw [hG.irr] at this
          exact absurd this (by simp)
        have hnd : (u :: G.nb u).Nodup := List.nodup_cons.2 ⟨hni, List.Pairwise.filter _ List.nodup_range⟩
        have hsub : (u :: G.nb u) ⊆ List.range G.n := fun x hx => by
          rcases List.mem_cons.1 hx with rfl | hx
          · exact List.mem_range.2 h1
          · exact List.mem_range.2 (hG.rng' ((Gr.mem_nb hG).1 hx))
        have := hnd.length_le_of_subset hsub
        simpa using this
      omega
    omega
  rcases leastTo_eq (n := G.n) (left := leftsOf G s.1) (gone := s.1) G.n with h | ⟨x, g1, g2, g3⟩
  · have := leastTo_le (n := G.n) (left := leftsOf G s.1) (gone := s.1) (j := G.n) h1 h2
    omega
  · rw [leftsOf_at g1] at g3
    exact pass_takes g1 g2 (by omega)
theorem Even.pass {G : Gr} {k : Int} {s : List Bool × List Int} (h : Even G s) : ∀ {j : Nat}, j ≤ G.n → Even G (passTo G k s j)
  | 0, _ => h
  | j + 1, hj => by
    rw [passTo_succ]
    exact (Even.pass h (j := j) (by omega)).go (by omega)
/-- How far a run still goes. -/
noncomputable def far (G : Gr) (s : List Bool × List Int) (k : Int) : Nat := 2 * (G.n - s.2.length) + if (passTo G k s G.n).2.length = s.2.length then 1 else 0
theorem far_took {G : Gr} {s : List Bool × List Int} {k : Int} (h : s.2.length < G.n) (hc : (passTo G k s G.n).2.length ≠ s.2.length) : far G (passTo G k s G.n) k < far G s k := by
  unfold far
  have := (passTo_len G k s G.n).1
  rw [if_neg hc]
  split <;> omega
theorem far_none {G : Gr} (hG : G.Ok) {s : List Bool × List Int} {k : Int} (hE : Even G s) (h : s.2.length < G.n) (hc : (passTo G k s G.n).2.length = s.2.length) : far G (passTo G k s G.n) (leastTo G.n (leftsOf G (passTo G k s G.n).1) (passTo G k s G.n).1 G.n) < far G s k := by
  have e := (passTo_len G k s G.n).2 hc
  have ht := least_takes hG hE h
  rw [e]
  unfold far
  rw [if_neg ht, if_pos hc]
  omega
theorem run_ex {G : Gr} (hG : G.Ok) : ∀ (m : Nat) (s : List Bool × List Int) (k : Int), Even G s → far G s k ≤ m → ∃ r, Run G s k r := by
  intro m
  induction m with
  | zero =>
    intro s k hE hm
    unfold far at hm
    exact ⟨_, .done (by omega)⟩
  | succ m ih =>
    intro s k hE hm
    rcases Nat.lt_or_ge s.2.length G.n with h | h
    · by_cases hc : (passTo G k s G.n).2.length = s.2.length
      · obtain ⟨r, hr⟩ := ih (passTo G k s G.n) (leastTo G.n (leftsOf G (passTo G k s G.n).1) (passTo G k s G.n).1 G.n) (hE.pass (Nat.le_refl _)) (by have := far_none hG hE h hc; omega)
        exact ⟨r, .none h hc hr⟩
      · obtain ⟨r, hr⟩ := ih (passTo G k s G.n) k (hE.pass (Nat.le_refl _)) (by have := far_took h hc; omega)
        exact ⟨r, .took h hc hr⟩
    · exact ⟨_, .done h⟩
open Classical in
/-- The order of a graph. -/
noncomputable def orderOf (G : Gr) : List Int := if h : ∃ r, Run G (List.replicate G.n false, []) 0 r then Classical.choose h else []
theorem orderOf_is {G : Gr} {r : List Int} (h : Run G (List.replicate G.n false, []) 0 r) : orderOf G = r := by
  unfold orderOf
  rw [dif_pos ⟨r, h⟩]
  exact (Classical.choose_spec (⟨r, h⟩ : ∃ r, Run G (List.replicate G.n false, []) 0 r)).uniq h
theorem even0 (G : Gr) : Even G (List.replicate G.n false, []) := ⟨by simp, by simp [List.count_replicate]⟩
theorem OrderP.is {G : Gr} (hG : G.Ok) (hn : G.n ≤ 4096) : OrderP.pre (some G) = true ∧ OrderP.fn (some G) = (orderOf G, ()) := by
  obtain ⟨r, hr⟩ := run_ex hG _ _ 0 (even0 G) (Nat.le_refl _)
  have key := OrderP.F4_inv
    (fun k c m r1 r2 r3 => ∃ s : List Bool × List Int, Even G s ∧ Run G s k r ∧ c = some G ∧ m = (G.n : Int) - s.2.length ∧ r1 = s.2 ∧ r2 = leftsOf G s.1 ∧ r3 = s.1)
    (fun k _ _ r1 _ r3 => far G (r3, r1) k) (fun z => z = ((), (r, ()))) (fun k c m r1 r2 r3 hI => by
      obtain ⟨s, hE, hR, rfl, rfl, rfl, rfl, rfl⟩ := hI
      have hle := hE.le
      unfold OrderP.R4
      refine led_dif (fun q1 => ?_) (fun q1 => led_x ?_)
      · have hlt : s.2.length < G.n := by omega
        obtain ⟨g1, g2⟩ := OrderP.F7_is hG hn (k := k) (was := (G.n : Int) - s.2.length) hE
        have g3 := (passTo_len G k s G.n).1
        simp only [hE.1, g1]
        by_cases hc : (passTo G k s G.n).2.length = s.2.length
        · have hb : (((G.n : Int) - (passTo G k s G.n).2.length) == ((G.n : Int) - s.2.length)) = true := by rw [hc]; simp
          obtain ⟨l1, l2⟩ := leastP.is hG hn (left := leftsOf G (passTo G k s G.n).1) (gone := (passTo G k s G.n).1) (leftsOf_len _ _) g2.1 ((G.n : Int) - (passTo G k s G.n).2.length)
          simp only [hb, l1, l2, if_true]
          refine led_k ⟨_, _, _, _, _, _, rfl, ⟨_, g2, ?_, rfl, rfl, rfl, rfl, rfl⟩, far_none hG hE hlt hc⟩
          cases hR with
          | done h => omega
          | took h1 h2 h3 => exact absurd hc h2
          | none h1 h2 h3 => exact h3
        · have hb : ¬ (((G.n : Int) - (passTo G k s G.n).2.length) == ((G.n : Int) - s.2.length)) = true := by simp; omega
          simp only [hb, Bool.false_eq_true, if_false]
          refine led_k ⟨_, _, _, _, _, _, rfl, ⟨_, g2, ?_, rfl, rfl, rfl, rfl, rfl⟩, far_took hlt hc⟩
          cases hR with
          | done h => omega
          | took h1 h2 h3 => exact h3
          | none h1 h2 h3 => exact absurd h2 hc
      · cases hR with
        | done h => rfl
        | took h1 h2 h3 => omega
        | none h1 h2 h3 => omega) 0 (some G) (G.n : Int) [] (leftsOf G (List.replicate G.n false)) (List.replicate G.n false) ⟨_, even0 G, hr, rfl, by simp, rfl, rfl, rfl⟩
  obtain ⟨z, hz, rfl⟩ := key
  refine OrderP.is_fn _ ?_
  unfold OrderP.run'
  have hp : peelP.pre (some G) = true := show (true && decide (G.n ≤ 4096)) = true by rw [decide_eq_true hn]; rfl
  have hf : peelP.fn (some G) = (some (some G, leftsOf G (List.replicate G.n false), List.replicate G.n false, (G.n : Int), false), ()) := by
    unfold peelP.fn
    rw [gr_some, degs_lefts]
    rfl
  rw [if_pos hp, hf]
  change (match OrderP.F4 0 (some G) (G.n : Int) [] (leftsOf G (List.replicate G.n false)) (List.replicate G.n false) with
    | some ((_, (r0_2, _))) => some (r0_2, ())
    | none => none) = some (orderOf G, ())
  rw [hz, orderOf_is hr]
end Go.Proofs.Ythbojpaghbbnnaa.Z
namespace Go.Proofs.Ythbojpaghbbnnaa.Z
open Go Go.RowKit
set_option linter.unusedVariables false
set_option linter.unusedSimpArgs false
theorem nb_lt {G : Gr} (hG : G.Ok) {u : Nat} (h1 : u < G.n) : (G.nb u).length < G.n := by
  have hni : u ∉ G.nb u := fun h => by
    have := (Gr.mem_nb hG).1 h
    rw [hG.irr] at this
    exact absurd this (by simp)
  have hnd : (u :: G.nb u).Nodup := List.nodup_cons.2 ⟨hni, List.Pairwise.filter _ List.nodup_range⟩
  have hsub : (u :: G.nb u) ⊆ List.range G.n := fun x hx => by
    rcases List.mem_cons.1 hx with rfl | hx
    · exact List.mem_range.2 h1
    · exact List.mem_range.2 (hG.rng' ((Gr.mem_nb hG).1 hx))
  have := hnd.length_le_of_subset hsub
  simp at this
  omega
end Go.Proofs.Ythbojpaghbbnnaa.Z
namespace Go.Proofs.Ythbojpaghbbnnaa.Z
open Go Go.RowKit
set_option linter.unusedVariables false
set_option linter.unusedSimpArgs false
/-- Those below j that go at k. -/
def nowTo (G : Gr) (k : Int) (g : List Bool) (j : Nat) : List Nat := (List.range j).filter (fun u => !g.getD u false && decide (Hx.inSet (Hx.here g) (nbsOf G u) ≤ k))
theorem nowTo_succ (G : Gr) (k : Int) (g : List Bool) (j : Nat) : nowTo G k g (j + 1) = nowTo G k g j ++ if (!g.getD j false && decide (Hx.inSet (Hx.here g) (nbsOf G j) ≤ k)) = true then [j] else [] := by
  unfold nowTo
  rw [List.range_succ, List.filter_append, List.filter_cons, List.filter_nil]
theorem mem_now {G : Gr} {k : Int} {g : List Bool} {j u : Nat} : u ∈ nowTo G k g j ↔ u < j ∧ g.getD u false = false ∧ Hx.inSet (Hx.here g) (nbsOf G u) ≤ k := by
  unfold nowTo
  rw [List.mem_filter, List.mem_range, Bool.and_eq_true, decide_eq_true_eq, Bool.not_eq_true']
theorem now_nodup (G : Gr) (k : Int) (g : List Bool) (j : Nat) : (nowTo G k g j).Nodup := List.Pairwise.filter _ List.nodup_range
theorem now_len (G : Gr) (k : Int) (g : List Bool) (j : Nat) : (nowTo G k g j).length ≤ j := by
  unfold nowTo
  have := List.length_filter_le (fun u => !g.getD u false && decide (Hx.inSet (Hx.here g) (nbsOf G u) ≤ k)) (List.range j)
  rw [List.length_range] at this
  exact this
def wipe (l : List Nat) (g : List Bool) : List Bool := l.foldl (fun g u => g.set u true) g
def mark (l : List Nat) (r : Int) (o : List Int) : List Int := l.foldl (fun o u => o.set u r) o
theorem wipe_snoc (l : List Nat) (u : Nat) (g : List Bool) : wipe (l ++ [u]) g = (wipe l g).set u true := by
  unfold wipe
  rw [List.foldl_append]
  rfl
theorem mark_snoc (l : List Nat) (u : Nat) (r : Int) (o : List Int) : mark (l ++ [u]) r o = (mark l r o).set u r := by
  unfold mark
  rw [List.foldl_append]
  rfl
theorem wipe_len : ∀ (l : List Nat) (g : List Bool), (wipe l g).length = g.length
  | [], g => rfl
  | u :: l, g => by
    show (wipe l (g.set u true)).length = _
    rw [wipe_len l, List.length_set]
theorem mark_len : ∀ (l : List Nat) (r : Int) (o : List Int), (mark l r o).length = o.length
  | [], r, o => rfl
  | u :: l, r, o => by
    show (mark l r (o.set u r)).length = _
    rw [mark_len l, List.length_set]
theorem wipe_at : ∀ (l : List Nat) (g : List Bool) (u : Nat), u ∉ l → (wipe l g).getD u false = g.getD u false
  | [], g, u, _ => rfl
  | x :: l, g, u, h => by
    show (wipe l (g.set x true)).getD u false = _
    rw [wipe_at l _ u (fun q => h (List.mem_cons_of_mem _ q)), Hx.getD_setG, if_neg (fun q => h (by rw [q.1]; exact List.mem_cons_self ..))]
theorem wipe_count : ∀ (l : List Nat) (g : List Bool), l.Nodup → (∀ u ∈ l, u < g.length ∧ g.getD u false = false) → (wipe l g).count true = g.count true + l.length
  | [], g, _, _ => rfl
  | x :: l, g, hn, h => by
    obtain ⟨h1, h2⟩ := List.nodup_cons.1 hn
    have hx := h x (List.mem_cons_self ..)
    have hh : ∀ u ∈ l, u < (g.set x true).length ∧ (g.set x true).getD u false = false := fun u hu => by
      have := h u (List.mem_cons_of_mem _ hu)
      refine ⟨by rw [List.length_set]; exact this.1, ?_⟩
      rw [Hx.getD_setG, if_neg (fun q => h1 (by rw [q.1]; exact hu)), this.2]
    show (wipe l (g.set x true)).count true = _
    rw [wipe_count l _ h2 hh, count_setT _ _ hx.1 hx.2, List.length_cons]
    omega
/-- The k of the next round. -/
def kOf (G : Gr) (g : List Bool) (k : Int) : Int := max k (leastTo G.n (leftsOf G g) g G.n)
/-- The rounds of the onion. -/
def onionTo (G : Gr) : Nat → List Bool → Int → Int → List Int → List Int
  | 0, _, _, _, o => o
  | f + 1, g, k, r, o => if g.count true = G.n then o else onionTo G f (wipe (nowTo G (kOf G g k) g G.n) g) (kOf G g k) (r + 1) (mark (nowTo G (kOf G g k) g G.n) r o)
def onionOf (G : Gr) : List Int := onionTo G G.n (List.replicate G.n false) 0 1 (List.replicate G.n 0)
theorem onionTo_full {G : Gr} {g : List Bool} (h : g.count true = G.n) (f : Nat) (k r : Int) (o : List Int) : onionTo G f g k r o = o := by
  cases f with
  | zero => rfl
  | succ f => unfold onionTo; rw [if_pos h]
theorem onionTo_step {G : Gr} {g : List Bool} (h : g.count true < G.n) (f : Nat) (k r : Int) (o : List Int) : onionTo G (f + 1) g k r o = onionTo G f (wipe (nowTo G (kOf G g k) g G.n) g) (kOf G g k) (r + 1) (mark (nowTo G (kOf G g k) g G.n) r o) := by
  rw [onionTo, if_neg (by omega)]
theorem least_at {G : Gr} (hG : G.Ok) {g : List Bool} (hl : g.length = G.n) (h : g.count true < G.n) : ∃ u, u < G.n ∧ g.getD u false = false ∧ Hx.inSet (Hx.here g) (nbsOf G u) = leastTo G.n (leftsOf G g) g G.n := by
  obtain ⟨u, h1, h2⟩ := exists_left (l := g) (by omega)
  rw [hl] at h1
  have h5 := nb_lt hG h1
  have h3 := Hx.inSet_le (Hx.here g) (nbsOf G u)
  rw [show (nbsOf G u).length = (G.nb u).length from up_length _] at h3
  rcases leastTo_eq (n := G.n) (left := leftsOf G g) (gone := g) G.n with h | ⟨x, g1, g2, g3⟩
  · have := leastTo_le (n := G.n) (left := leftsOf G g) (gone := g) (j := G.n) h1 h2
    rw [leftsOf_at h1] at this
    omega
  · rw [leftsOf_at g1] at g3
    exact ⟨x, g1, g2, g3⟩
theorem now_some {G : Gr} (hG : G.Ok) {g : List Bool} {k : Int} (hl : g.length = G.n) (h : g.count true < G.n) (hk : leastTo G.n (leftsOf G g) g G.n ≤ k) : nowTo G k g G.n ≠ [] := fun e => by
  obtain ⟨u, h1, h2, h3⟩ := least_at hG hl h
  have : u ∈ nowTo G k g G.n := mem_now.2 ⟨h1, h2, by omega⟩
  rw [e] at this
  cases this
theorem kOf_le {G : Gr} {g : List Bool} {k : Int} {j : Nat} (hj : j ≤ G.n) (h : nowTo G k g j ≠ []) : kOf G g k = k := by
  obtain ⟨u, hu⟩ := List.exists_mem_of_ne_nil _ h
  obtain ⟨h1, h2, h3⟩ := mem_now.1 hu
  have h4 := leastTo_le (n := G.n) (left := leftsOf G g) (gone := g) (j := G.n) (show u < G.n by omega) h2
  rw [leftsOf_at (by omega)] at h4
  unfold kOf
  omega
theorem kOf_gt {G : Gr} (hG : G.Ok) {g : List Bool} {k : Int} (hl : g.length = G.n) (h : g.count true < G.n) (h0 : nowTo G k g G.n = []) : kOf G g k = kOf G g (leastTo G.n (leftsOf G g) g G.n) := by
  have : ¬ leastTo G.n (leftsOf G g) g G.n ≤ k := fun q => now_some hG hl h q h0
  unfold kOf
  omega
theorem upD {l : List Nat} {i : Nat} (h : i < l.length) : (up l).getD i 0 = ((l.getD i 0 : Nat) : Int) := by simp [up, List.getD_eq_getElem?_getD, h]
theorem up_snoc (l : List Nat) (j : Nat) : up (l ++ [j]) = up l ++ [(j : Int)] := by simp [up]
theorem now_fresh {G : Gr} {k : Int} {g : List Bool} (hl : g.length = G.n) : ∀ u ∈ nowTo G k g G.n, u < g.length ∧ g.getD u false = false := fun u hu => by
  have := mem_now.1 hu
  exact ⟨by omega, this.2.1⟩
theorem not_take {l : List Nat} (h : l.Nodup) {i : Nat} (hi : i < l.length) : l.getD i 0 ∉ l.take i := fun hm => by
  have hnd2 : (l.take (i + 1)).Nodup := List.Pairwise.take h
  rw [take_snoc 0 l i hi] at hnd2
  exact (List.nodup_append.1 hnd2).2.2 _ hm _ (by simp) rfl
theorem OnionP.F8_is {G : Gr} (hn : G.n ≤ 4096) {rd k m : Int} {c : Option Gr} {o : List Int} {g : List Bool} (hl : g.length = G.n) :
    OnionP.F8 rd k (G.n : Int) 0 c m o [] g (leftsOf G g) = some ((rd, k, ()), ((c, m, ()), o, up (nowTo G k g G.n), leftsOf G g, g, ())) := by
  have key := OnionP.F8_inv (round5 := rd) (k6 := k) (t26 := (G.n : Int)) (c0x0 := c) (c0x3 := m) (r1 := o) (r3 := g) (r4 := leftsOf G g)
    (fun t r2 => ∃ j : Nat, t = (j : Int) ∧ j ≤ G.n ∧ r2 = up (nowTo G k g j)) (fun t _ => G.n - t.toNat)
    (fun z => z = ((rd, k, ()), ((c, m, ()), o, up (nowTo G k g G.n), leftsOf G g, g, ()))) (fun t r2 hI => by
      obtain ⟨j, rfl, hj, rfl⟩ := hI
      unfold OnionP.R8
      refine led_dif (fun q1 => ?_) (fun q1 => led_x ?_)
      · have hjn : j < G.n := by omega
        have hw : IntKind.wrap .i64 ((j : Int) + 1) = (j : Int) + 1 := wr (by omega) (by omega)
        have a1 : (0 : Int) ≤ (j : Int) := by omega
        have a2 : (j : Int) < (g.length : Int) := by omega
        have a3 : (j : Int) < ((leftsOf G g).length : Int) := by rw [leftsOf_len]; omega
        have e := nowTo_succ G k g j
        have hlen := now_len G k g j
        have room : ((up (nowTo G k g j)).length + [(j : Int)].length) * 8 ≤ 140737488355328 := by rw [up_length, List.length_singleton]; omega
        simp only [Int.toNat_natCast, hw, a1, a2, a3, leftsOf_at hjn, room, if_true]
        cases hb : g.getD j false with
        | true =>
          rw [hb] at e
          simp only [Bool.not_true, Bool.false_and, Bool.false_eq_true, if_false, List.append_nil] at e ⊢
          exact led_k ⟨_, _, rfl, ⟨j + 1, by omega, by omega, by rw [e]⟩, by omega⟩
        | false =>
          rw [hb] at e
          by_cases hk : Hx.inSet (Hx.here g) (nbsOf G j) ≤ k
          · simp only [hk, decide_true, Bool.not_false, Bool.true_and, if_true] at e ⊢
            exact led_k ⟨_, _, rfl, ⟨j + 1, by omega, by omega, by rw [e, up_snoc]⟩, by omega⟩
          · simp only [hk, decide_false, Bool.not_false, Bool.true_and, Bool.false_eq_true, if_false, if_true, List.append_nil] at e ⊢
            exact led_k ⟨_, _, rfl, ⟨j + 1, by omega, by omega, by rw [e]⟩, by omega⟩
      · obtain rfl : j = G.n := by omega
        rfl) 0 [] ⟨0, rfl, by omega, rfl⟩
  obtain ⟨z, hz, rfl⟩ := key
  exact hz
theorem OnionP.F16_is {G : Gr} (hG : G.Ok) (hn : G.n ≤ 4096) {rd k m : Int} {o : List Int} {g : List Bool} (hl : g.length = G.n) (ho : o.length = G.n) {l : List Nat} (hnd : l.Nodup) (hf : ∀ u ∈ l, u < g.length ∧ g.getD u false = false) (hll : l.length ≤ 4096) (hm : 0 ≤ m ∧ m ≤ 4096) :
    OnionP.F16 rd k ((up l).length : Int) 0 (some G) m o (up l) (leftsOf G g) g = some ((rd, k, ()), ((some G, m - l.length, ()), mark l rd o, leftsOf G (wipe l g), wipe l g, ())) := by
  have hul := up_length l
  have key := OnionP.F16_inv (round5 := rd) (k6 := k) (t56 := ((up l).length : Int)) (r2 := up l)
    (fun t c m' r1 r3 r4 => ∃ i : Nat, t = (i : Int) ∧ i ≤ l.length ∧ c = some G ∧ m' = m - i ∧ r1 = mark (l.take i) rd o ∧ r3 = leftsOf G (wipe (l.take i) g) ∧ r4 = wipe (l.take i) g) (fun t _ _ _ _ _ => l.length - t.toNat)
    (fun z => z = ((rd, k, ()), ((some G, m - l.length, ()), mark l rd o, leftsOf G (wipe l g), wipe l g, ()))) (fun t c m' r1 r3 r4 hI => by
      obtain ⟨i, rfl, hi, rfl, rfl, rfl, rfl, rfl⟩ := hI
      unfold OnionP.R16
      refine led_dif (fun q1 => ?_) (fun q1 => led_x ?_)
      · have hil : i < l.length := by omega
        have hw : IntKind.wrap .i64 ((i : Int) + 1) = (i : Int) + 1 := wr (by omega) (by omega)
        have hxi := upD hil
        have hnt := not_take hnd hil
        have tk := take_snoc 0 l i hil
        have hxm := mem_getD 0 l i hil
        obtain ⟨x, hx⟩ : ∃ x, x = l.getD i 0 := ⟨_, rfl⟩
        rw [← hx] at hxi hnt tk hxm
        have hxf := hf x hxm
        have hwl : (wipe (l.take i) g).length = G.n := by rw [wipe_len]; exact hl
        have hml : (mark (l.take i) rd o).length = G.n := by rw [mark_len]; exact ho
        have hg := goesP.is hG hn (gone := wipe (l.take i) g) hwl (v := x) (by omega) (by rw [wipe_at _ _ _ hnt]; exact hxf.2) (m := m - i) ⟨by omega, by omega⟩
        have a1 : (0 : Int) ≤ (i : Int) := by omega
        have a2 : (i : Int) < ((up l).length : Int) := by omega
        have a3 : (0 : Int) ≤ (x : Int) := by omega
        have a4 : (x : Int) < ((mark (l.take i) rd o).length : Int) := by omega
        have a5 : x < (mark (l.take i) rd o).length := by omega
        simp only [Int.toNat_natCast, hxi, hw, hg.1, hg.2, a1, a2, a3, a4, a5, if_true]
        refine led_k ⟨_, _, _, _, _, _, rfl, ⟨i + 1, by omega, by omega, rfl, by omega, ?_, ?_, ?_⟩, by omega⟩
        · rw [tk, mark_snoc]
        · rw [tk, wipe_snoc]
        · rw [tk, wipe_snoc]
      · obtain rfl : i = l.length := by omega
        rw [List.take_length]) 0 (some G) m o (leftsOf G g) g ⟨0, rfl, by omega, rfl, by omega, rfl, rfl, rfl⟩
  obtain ⟨z, hz, rfl⟩ := key
  exact hz
theorem OnionP.is {G : Gr} (hG : G.Ok) (hn : G.n ≤ 4096) : OnionP.pre (some G) = true ∧ OnionP.fn (some G) = (onionOf G, ()) := by
  have key := OnionP.F5_inv
    (fun rd k c m r1 r2 r3 => ∃ f : Nat, r3.length = G.n ∧ r1.length = G.n ∧ G.n - r3.count true ≤ f ∧ onionTo G f r3 k rd r1 = onionOf G ∧ 1 ≤ rd ∧ rd ≤ 1 + (r3.count true : Int) ∧ c = some G ∧ m = (G.n : Int) - r3.count true ∧ r2 = leftsOf G r3)
    (fun _ k _ _ _ _ r3 => 2 * (G.n - r3.count true) + if nowTo G k r3 G.n = [] then 1 else 0) (fun z => z = ((), (onionOf G, ()))) (fun rd k c m r1 r2 r3 hI => by
      obtain ⟨f, hl, ho, hf, he, hr1, hr2, rfl, rfl, rfl⟩ := hI
      have hcl := List.count_le_length (a := true) (l := r3)
      unfold OnionP.R5
      refine led_dif (fun q1 => ?_) (fun q1 => led_x ?_)
      · have hlt : r3.count true < G.n := by omega
        obtain ⟨f', rfl⟩ : ∃ f', f = f' + 1 := ⟨f - 1, by omega⟩
        simp only [hl, OnionP.F8_is hn hl]
        by_cases hc : nowTo G k r3 G.n = []
        · have hb : (((up (nowTo G k r3 G.n)).length : Int) == 0) = true := by rw [hc]; rfl
          obtain ⟨l1, l2⟩ := leastP.is hG hn (left := leftsOf G r3) (gone := r3) (leftsOf_len _ _) hl ((G.n : Int) - r3.count true)
          simp only [hb, l1, l2, if_true]
          refine led_k ⟨_, _, _, _, _, _, _, rfl, ⟨f' + 1, hl, ho, hf, ?_, hr1, hr2, rfl, rfl, rfl⟩, ?_⟩
          · rw [onionTo_step hlt, kOf_gt hG hl hlt hc] at he
            rw [onionTo_step hlt]
            exact he
          · rw [if_pos hc, if_neg (now_some hG hl hlt (Int.le_refl _))]
            omega
        · have hpos : 0 < (nowTo G k r3 G.n).length := List.length_pos_iff.2 hc
          have hb : ¬ (((up (nowTo G k r3 G.n)).length : Int) == 0) = true := by rw [up_length, beq_iff_eq]; omega
          have hnl := now_len G k r3 G.n
          have hwc := wipe_count _ _ (now_nodup G k r3 G.n) (now_fresh hl)
          have hwl := wipe_len (nowTo G k r3 G.n) r3
          have hcl2 := List.count_le_length (a := true) (l := wipe (nowTo G k r3 G.n) r3)
          have hw : IntKind.wrap .i64 (rd + 1) = rd + 1 := wr (by omega) (by omega)
          simp only [hb, OnionP.F16_is hG hn hl ho (now_nodup G k r3 G.n) (now_fresh hl) (by omega) (show 0 ≤ (G.n : Int) - r3.count true ∧ (G.n : Int) - r3.count true ≤ 4096 by omega), hw, if_false]
          refine led_k ⟨_, _, _, _, _, _, _, rfl, ⟨f', by omega, by rw [mark_len]; exact ho, by omega, ?_, by omega, by omega, rfl, by omega, rfl⟩, ?_⟩
          · rw [onionTo_step hlt, kOf_le (Nat.le_refl _) hc] at he
            exact he
          · rw [if_neg hc]
            split <;> omega
      · have hfull : r3.count true = G.n := by omega
        rw [onionTo_full hfull] at he
        rw [he]) 1 0 (some G) (G.n : Int) (List.replicate G.n 0) (leftsOf G (List.replicate G.n false)) (List.replicate G.n false)
    ⟨G.n, by simp, by simp, by omega, rfl, by omega, by omega, rfl, by simp [List.count_replicate], rfl⟩
  obtain ⟨z, hz, rfl⟩ := key
  refine OnionP.is_fn _ ?_
  unfold OnionP.run'
  have hp : peelP.pre (some G) = true := show (true && decide (G.n ≤ 4096)) = true by rw [decide_eq_true hn]; rfl
  have hf : peelP.fn (some G) = (some (some G, leftsOf G (List.replicate G.n false), List.replicate G.n false, (G.n : Int), false), ()) := by
    unfold peelP.fn
    rw [gr_some, degs_lefts]
    rfl
  have a1 : (0 : Int) ≤ (G.n : Int) := by omega
  have room : G.n * 8 ≤ 140737488355328 := by omega
  rw [if_pos hp, hf]
  change (if N.pre (some G) = true then (if (N.fn (some G)).1 = (N.fn (some G)).1 then (if (0 : Int) ≤ (N.fn (some G)).1 then (if Int.toNat (N.fn (some G)).1 * (8 : Nat) ≤ (140737488355328 : Nat) then (match OnionP.F5 1 0 (some G) (G.n : Int) (List.replicate (Int.toNat (N.fn (some G)).1) (0 : Int)) (leftsOf G (List.replicate G.n false)) (List.replicate G.n false) with
    | some ((_, (r0_3, _))) => some (r0_3, ())
    | none => none) else none) else none) else none) else none) = some (onionOf G, ())
  simp only [N.pre, N.fn, gr_some, Option.isSome_some, Int.toNat_natCast, a1, room, hz, if_true]
end Go.Proofs.Ythbojpaghbbnnaa.Z
namespace Go.Proofs.Ythbojpaghbbnnaa.Z
open Go Go.RowKit
set_option linter.unusedVariables false
set_option linter.unusedSimpArgs false
theorem ext_getD {α : Type} (d : α) {a b : List α} (hl : a.length = b.length) (h : ∀ i, i < a.length → a.getD i d = b.getD i d) : a = b := by
  refine List.ext_getElem? (fun i => ?_)
  rcases Nat.lt_or_ge i a.length with hi | hi
  · have := h i hi
    rw [List.getD_eq_getElem?_getD, List.getD_eq_getElem?_getD, List.getElem?_eq_getElem hi, List.getElem?_eq_getElem (show i < b.length by omega)] at this
    rw [List.getElem?_eq_getElem hi, List.getElem?_eq_getElem (show i < b.length by omega)]
    exact congrArg some this
  · rw [List.getElem?_eq_none hi, List.getElem?_eq_none (by omega)]
theorem range_map_at {α : Type} (d : α) (f : Nat → α) {n i : Nat} (h : i < n) : ((List.range n).map f).getD i d = f i := by
  rw [List.getD_eq_getElem?_getD, List.getElem?_map, List.getElem?_range h]
  rfl
/-- The edges between two that are kept. -/
def keepP (keep : List Bool) (p : Nat × Nat) : Bool := keep.getD p.1 false && keep.getD p.2 false
def insideE (G : Gr) (keep : List Bool) : Nat := G.pairs.countP (keepP keep)
def insTo (G : Gr) (keep : List Bool) : Nat → Nat
  | 0 => 0
  | j + 1 => insTo G keep j + if keep.getD j false = true then (G.nb j).countP (fun u => decide (u < j) && keep.getD u false) else 0
def pairs2 (G : Gr) (j : Nat) : List (Nat × Nat) := (List.range j).flatMap (fun v => ((G.nb v).filter (fun u => decide (u < v))).map (fun u => (u, v)))
theorem mem_pairs2 {G : Gr} (h : G.Ok) {u v : Nat} : (u, v) ∈ pairs2 G G.n ↔ u < v ∧ G.adj u v = true := by
  unfold pairs2
  simp only [List.mem_flatMap, List.mem_range, List.mem_map, List.mem_filter, Prod.mk.injEq]
  constructor
  · rintro ⟨a, ha, b, ⟨hb, hl⟩, rfl, rfl⟩
    refine ⟨by simpa using hl, ?_⟩
    rw [← h.symm]
    exact (Gr.mem_nb h).1 hb
  · rintro ⟨hl, hk⟩
    exact ⟨v, h.rng' hk, u, ⟨(Gr.mem_nb h).2 (by rw [h.symm]; exact hk), by simpa using hl⟩, rfl, rfl⟩
theorem pairs2_nodup (G : Gr) (j : Nat) : (pairs2 G j).Nodup := by
  unfold pairs2 List.Nodup
  rw [List.pairwise_flatMap]
  refine ⟨fun u _ => ?_, ?_⟩
  · exact nodup_map (fun a b h => by injection h) ((G.nb_nodup u).filter _)
  · refine List.Pairwise.imp ?_ List.pairwise_lt_range
    intro a b hab p hp q hq
    simp only [List.mem_map] at hp hq
    obtain ⟨x, _, rfl⟩ := hp
    obtain ⟨y, _, rfl⟩ := hq
    intro e
    injection e with e1 e2
    omega
theorem pairs2_perm {G : Gr} (h : G.Ok) : G.pairs.Perm (pairs2 G G.n) := perm_of_mem G.pairs_nodup (pairs2_nodup G _) (fun p => by
  obtain ⟨u, v⟩ := p
  rw [Gr.mem_pairs h, mem_pairs2 h])
theorem pairs2_count (G : Gr) (keep : List Bool) : ∀ j, (pairs2 G j).countP (keepP keep) = insTo G keep j
  | 0 => rfl
  | j + 1 => by
    have e : pairs2 G (j + 1) = pairs2 G j ++ ((G.nb j).filter (fun u => decide (u < j))).map (fun u => (u, j)) := by
      unfold pairs2
      rw [List.range_succ, List.flatMap_append, List.flatMap_singleton]
    rw [e, List.countP_append, pairs2_count G keep j, List.countP_map, List.countP_filter, insTo]
    congr 1
    by_cases hk : keep.getD j false = true
    · rw [if_pos hk]
      refine List.countP_congr (fun u _ => ?_)
      simp only [Function.comp, keepP, hk, Bool.and_true]
      rw [Bool.and_comm]
    · rw [if_neg hk, List.countP_eq_zero]
      intro u _
      have : keep.getD j false = false := by cases h : keep.getD j false with
        | true => exact absurd h hk
        | false => rfl
      simp only [Function.comp, keepP, this, Bool.and_false, Bool.false_and]
      simp
theorem insTo_is {G : Gr} (h : G.Ok) (keep : List Bool) : insTo G keep G.n = insideE G keep := by
  rw [← pairs2_count]
  exact (pairs2_perm h).symm.countP_eq _
theorem insTo_le (G : Gr) (keep : List Bool) : ∀ j, insTo G keep j ≤ j * G.n
  | 0 => by simp [insTo]
  | j + 1 => by
    have ih := insTo_le G keep j
    have h1 := List.countP_le_length (p := fun u => decide (u < j) && keep.getD u false) (l := G.nb j)
    have h2 := G.nb_length_le j
    rw [insTo, Nat.succ_mul]
    split <;> omega
theorem sq_le {a n : Nat} (h : a ≤ n) (hn : n ≤ 4096) : a * n ≤ 16777216 := Nat.le_trans (Nat.mul_le_mul (Nat.le_trans h hn) hn) (by decide)
namespace Within6
theorem F10_is {G : Gr} (hG : G.Ok) (hn : G.n ≤ 4096) {keep : List Bool} (hl : keep.length = G.n) {v : Nat} {e0 : Nat} (he : e0 ≤ 16777216) (c : Int) :
    F10 (some (rowsOf G)) keep (e0 : Int) c (v : Int) (up (G.nb v)) 0 = some ((some (rowsOf G), keep, ((e0 + (G.nb v).countP (fun u => decide (u < v) && keep.getD u false) : Nat) : Int), c, (v : Int), ()), ()) := by
  have hlen : (up (G.nb v)).length = (G.nb v).length := up_length _
  have hb := G.nb_length_le v
  have key := F10_inv (g0 := some (rowsOf G)) (keep1 := keep) (count7 := c) (v8 := (v : Int)) (l9 := up (G.nb v))
    (fun e i => ∃ j : Nat, i = (j : Int) ∧ j ≤ (G.nb v).length ∧ e = ((e0 + ((G.nb v).take j).countP (fun u => decide (u < v) && keep.getD u false) : Nat) : Int)) (fun _ i => (G.nb v).length - i.toNat)
    (fun z => z = ((some (rowsOf G), keep, ((e0 + (G.nb v).countP (fun u => decide (u < v) && keep.getD u false) : Nat) : Int), c, (v : Int), ()), ())) (fun e i hI => by
      obtain ⟨j, rfl, hj, rfl⟩ := hI
      unfold R10
      refine led_dif (fun q1 => ?_) (fun q1 => led_x ?_)
      · have hjl : j < (G.nb v).length := by omega
        have hxi := upD hjl
        have tk := take_snoc 0 (G.nb v) j hjl
        have hxm := mem_getD 0 (G.nb v) j hjl
        obtain ⟨x, hx⟩ : ∃ x, x = (G.nb v).getD j 0 := ⟨_, rfl⟩
        rw [← hx] at hxi tk hxm
        have hxn : x < G.n := hG.rng' ((Gr.mem_nb hG).1 hxm)
        have hw : IntKind.wrap .i64 ((j : Int) + 1) = (j : Int) + 1 := wr (by omega) (by omega)
        have hc := List.countP_le_length (p := fun u => decide (u < v) && keep.getD u false) (l := (G.nb v).take j)
        rw [List.length_take] at hc
        have hcs : ((G.nb v).take (j + 1)).countP (fun u => decide (u < v) && keep.getD u false) = ((G.nb v).take j).countP (fun u => decide (u < v) && keep.getD u false) + if (decide (x < v) && keep.getD x false) = true then 1 else 0 := by
          rw [tk, List.countP_append, List.countP_singleton]
        obtain ⟨C, hC⟩ : ∃ C, C = ((G.nb v).take j).countP (fun u => decide (u < v) && keep.getD u false) := ⟨_, rfl⟩
        rw [← hC] at hc hcs ⊢
        have hw2 : IntKind.wrap .i64 (((e0 + C : Nat) : Int) + 1) = ((e0 + C : Nat) : Int) + 1 := wr (by omega) (by omega)
        have a1 : (0 : Int) ≤ (j : Int) := by omega
        have a2 : (j : Int) < ((up (G.nb v)).length : Int) := by omega
        have a3 : (0 : Int) ≤ (x : Int) := by omega
        have a4 : (x : Int) < (keep.length : Int) := by omega
        simp only [Int.toNat_natCast, hxi, hw, hw2, a1, a2, a3, a4, if_true]
        by_cases h1 : x < v
        · have h1' : ((x : Int) < (v : Int)) := by omega
          cases hk : keep.getD x false with
          | true =>
            simp only [h1, h1', hk, decide_true, Bool.true_and, Bool.and_true, if_true] at hcs ⊢
            exact led_k ⟨_, _, rfl, ⟨j + 1, by omega, by omega, by rw [hcs]; omega⟩, by omega⟩
          | false =>
            simp only [h1, h1', hk, decide_true, Bool.true_and, Bool.false_eq_true, if_true, if_false] at hcs ⊢
            exact led_k ⟨_, _, rfl, ⟨j + 1, by omega, by omega, by rw [hcs]; omega⟩, by omega⟩
        · have h1' : ¬ ((x : Int) < (v : Int)) := by omega
          simp only [h1, h1', decide_false, Bool.false_and, Bool.false_eq_true, if_false] at hcs ⊢
          exact led_k ⟨_, _, rfl, ⟨j + 1, by omega, by omega, by rw [hcs]; omega⟩, by omega⟩
      · obtain rfl : j = (G.nb v).length := by omega
        rw [List.take_length]) (e0 : Int) 0 ⟨0, rfl, by omega, by simp⟩
  obtain ⟨z, hz, rfl⟩ := key
  exact hz
theorem is {G : Gr} (hG : G.Ok) (hn : G.n ≤ 4096) {keep : List Bool} (hl : keep.length = G.n) :
    pre (some (rowsOf G)) keep = true ∧ fn (some (rowsOf G)) keep = ((insideE G keep : Int), (keep.count true : Int), ()) := by
  have key := F4_inv (g0 := some (rowsOf G)) (keep1 := keep)
    (fun e c v => ∃ j : Nat, v = (j : Int) ∧ j ≤ G.n ∧ e = (insTo G keep j : Int) ∧ c = ((keep.take j).count true : Int)) (fun _ _ v => G.n - v.toNat)
    (fun z => z = (((insideE G keep : Int), (keep.count true : Int), ()), ())) (fun e c v hI => by
      obtain ⟨j, rfl, hj, rfl, rfl⟩ := hI
      unfold R4
      simp only [(N5.is G).1, (N5.is G).2, if_true]
      refine led_dif (fun q1 => ?_) (fun q1 => led_x ?_)
      · have hjl : j < keep.length := by omega
        have hw : IntKind.wrap .i64 ((j : Int) + 1) = (j : Int) + 1 := wr (by omega) (by omega)
        have hc := List.count_le_length (a := true) (l := keep.take j)
        rw [List.length_take] at hc
        have hw2 : IntKind.wrap .i64 (((keep.take j).count true : Int) + 1) = ((keep.take j).count true : Int) + 1 := wr (by omega) (by omega)
        have tk := take_snoc false keep j hjl
        have hi := insTo_le G keep j
        have hs := sq_le hj hn
        have e1 : insTo G keep (j + 1) = insTo G keep j + if keep.getD j false = true then (G.nb j).countP (fun u => decide (u < j) && keep.getD u false) else 0 := rfl
        have a1 : (0 : Int) ≤ (j : Int) := by omega
        have a2 : (j : Int) < (keep.length : Int) := by omega
        simp only [Int.toNat_natCast, hw, hw2, a1, a2, decide_true, if_true]
        cases hb : keep.getD j false with
        | true =>
          rw [hb, if_pos rfl] at e1
          rw [hb] at tk
          simp only [Bool.not_true, Bool.false_eq_true, if_false, (Nb5.is hG _).1, (Nb5.is hG _).2, nbz_at, F10_is hG hn hl (show insTo G keep j ≤ 16777216 by omega), hw, if_true]
          exact led_k ⟨_, _, _, rfl, ⟨j + 1, by omega, by omega, by rw [e1], by rw [tk]; simp⟩, by omega⟩
        | false =>
          rw [hb, if_neg (by simp)] at e1
          rw [hb] at tk
          simp only [Bool.not_false, if_true]
          exact led_k ⟨_, _, _, rfl, ⟨j + 1, by omega, by omega, by rw [e1]; rfl, by rw [tk]; simp⟩, by omega⟩
      · obtain rfl : j = G.n := by omega
        rw [insTo_is hG, List.take_of_length_le (by omega)]) 0 0 0 ⟨0, rfl, by omega, rfl, by simp⟩
  obtain ⟨z, hz, rfl⟩ := key
  refine is_fn _ _ ?_
  unfold run'
  rw [hz]
end Within6
/-- The greatest of some numbers, and of b. -/
def maxTo (b : Int) (l : List Int) : Int := l.foldl (fun n x => if x > n then x else n) b
theorem maxTo_snoc (b : Int) (l : List Int) (x : Int) : maxTo b (l ++ [x]) = if x > maxTo b l then x else maxTo b l := by
  unfold maxTo
  rw [List.foldl_append]
  rfl
theorem maxTo_ge : ∀ (l : List Int) (b : Int), b ≤ maxTo b l ∧ ∀ x ∈ l, x ≤ maxTo b l
  | [], b => ⟨Int.le_refl _, fun x h => by cases h⟩
  | y :: l, b => by
    have e : maxTo b (y :: l) = maxTo (if y > b then y else b) l := rfl
    obtain ⟨h1, h2⟩ := maxTo_ge l (if y > b then y else b)
    rw [e]
    have h3 : b ≤ (if y > b then y else b) ∧ y ≤ (if y > b then y else b) := by split <;> omega
    refine ⟨Int.le_trans h3.1 h1, fun x hx => ?_⟩
    rcases List.mem_cons.1 hx with rfl | hx
    · exact Int.le_trans h3.2 h1
    · exact h2 x hx
theorem maxTo_mem : ∀ (l : List Int) (b : Int), maxTo b l = b ∨ maxTo b l ∈ l
  | [], b => .inl rfl
  | y :: l, b => by
    have e : maxTo b (y :: l) = maxTo (if y > b then y else b) l := rfl
    rw [e]
    rcases maxTo_mem l (if y > b then y else b) with h | h
    · rw [h]
      split
      · exact .inr (List.mem_cons_self ..)
      · exact .inl rfl
    · exact .inr (List.mem_cons_of_mem _ h)
def coreAt (c : List Int) (k : Int) : List Bool := c.map (fun x => decide (x ≥ k))
/-- How many shells there are. -/
def tops (c : List Int) : Nat := (maxTo (-1) c + 1).toNat
def shellAt (G : Gr) (c : List Int) (k : Nat) : Int × (Int × Int) := ((k : Int), (c.count (k : Int) : Int), (insideE G (coreAt c (k : Int)) : Int))
def shellsTo (G : Gr) (c : List Int) (j : Nat) : List (Int × (Int × Int)) := (List.range j).map (shellAt G c)
theorem coresOf_len {G : Gr} (hG : G.Ok) (hn : G.n ≤ 4096) : (coresOf G).length = G.n := (coresOf_ok hG (by omega)).len
theorem coresOf_at {G : Gr} (hG : G.Ok) (hn : G.n ≤ 4096) {v : Nat} (hv : v < G.n) : ∃ k : Nat, (coresOf G).getD v 0 = (k : Int) ∧ k < G.n ∧ k ≤ (G.nb v).length := by
  have hc := coresOf_ok hG (show G.n ≤ 16777216 by omega)
  have h1 := hc.nonneg v hv
  have h2 := (hc.isin v hv).lt.2
  rw [show (nbsOf G v).length = (G.nb v).length from up_length _] at h2
  have h3 := nb_lt hG hv
  exact ⟨((coresOf G).getD v 0).toNat, by omega, by omega, by omega⟩
theorem max_cores {G : Gr} (hG : G.Ok) (hn : G.n ≤ 4096) : maxTo 0 (coresOf G) < 4096 ∧ 0 ≤ maxTo 0 (coresOf G) ∧ (0 < G.n → maxTo (-1) (coresOf G) = maxTo 0 (coresOf G)) ∧ (G.n = 0 → maxTo (-1) (coresOf G) = -1) ∧ ∀ v, v < G.n → (coresOf G).getD v 0 ≤ maxTo 0 (coresOf G) := by
  have hl := coresOf_len hG hn
  have h0 := maxTo_ge (coresOf G) 0
  have h1 := maxTo_ge (coresOf G) (-1)
  have hat : ∀ x ∈ coresOf G, 0 ≤ x ∧ x < 4096 := fun x hx => by
    obtain ⟨i, hi, rfl⟩ := List.getElem_of_mem hx
    obtain ⟨k, h1, h2, h3⟩ := coresOf_at hG hn (v := i) (by omega)
    rw [List.getD_eq_getElem?_getD, List.getElem?_eq_getElem hi] at h1
    have : (coresOf G)[i] = (k : Int) := h1
    omega
  refine ⟨?_, h0.1, fun hp => ?_, fun hz => ?_, fun v hv => h0.2 _ (mem_getD 0 _ v (by omega))⟩
  · rcases maxTo_mem (coresOf G) 0 with h | h
    · omega
    · exact (hat _ h).2
  · have m0 := mem_getD 0 (coresOf G) 0 (by omega)
    have b0 := hat _ m0
    have c1 := h1.2 _ m0
    have c0 := h0.2 _ m0
    rcases maxTo_mem (coresOf G) (-1) with h | h
    · omega
    · have d1 := h0.2 _ h
      rcases maxTo_mem (coresOf G) 0 with g | g
      · omega
      · have d2 := h1.2 _ g
        omega
  · have : coresOf G = [] := List.length_eq_zero_iff.1 (by omega)
    rw [this]
    rfl
noncomputable def shellsOf (G : Gr) : List (Int × (Int × Int)) := shellsTo G (coresOf G) (tops (coresOf G))
theorem count_snoc (l : List Int) (x k : Int) : (l ++ [x]).count k = l.count k + if (x == k) = true then 1 else 0 := by
  rw [List.count_append, List.count_singleton]
namespace ShellsP
abbrev z3 : Int × (Int × Int) := ((0 : Int), (0 : Int), (0 : Int))
theorem F4_is {g : Option Gr} {c : List Int} (hl : c.length ≤ 4096) : F4 g (-1) (c.length : Int) 0 c = some ((g, maxTo (-1) c, ()), (c, ())) := by
  have key := F4_inv (g0 := g) (t17 := (c.length : Int)) (r0 := c) (fun n i => ∃ j : Nat, i = (j : Int) ∧ j ≤ c.length ∧ n = maxTo (-1) (c.take j)) (fun _ i => c.length - i.toNat)
    (fun z => z = ((g, maxTo (-1) c, ()), (c, ()))) (fun n i hI => by
      obtain ⟨j, rfl, hj, rfl⟩ := hI
      unfold R4
      refine led_dif (fun q1 => ?_) (fun q1 => led_x ?_)
      · have hjl : j < c.length := by omega
        have hw : IntKind.wrap .i64 ((j : Int) + 1) = (j : Int) + 1 := wr (by omega) (by omega)
        have tk := take_snoc 0 c j hjl
        have a1 : (0 : Int) ≤ (j : Int) := by omega
        simp only [Int.toNat_natCast, hw, a1, q1, if_true]
        exact led_k ⟨_, _, rfl, ⟨j + 1, by omega, by omega, by rw [tk, maxTo_snoc]⟩, by omega⟩
      · rw [List.take_of_length_le (by omega)]) (-1) 0 ⟨0, rfl, by omega, rfl⟩
  obtain ⟨z, hz, rfl⟩ := key
  exact hz
theorem F10_is {g : Option Gr} {top : Int} {c : List Int} {T : Nat} (hT : T ≤ 4096) : ∃ r, F10 g top (T : Int) 0 c (List.replicate T z3) = some ((g, top, ()), (c, r, ())) ∧ r.length = T ∧ ∀ k, k < T → r.getD k z3 = ((k : Int), 0, 0) := by
  have key := F10_inv (g0 := g) (top4 := top) (t30 := (T : Int)) (r0 := c) (fun i r => ∃ j : Nat, i = (j : Int) ∧ j ≤ T ∧ r.length = T ∧ ∀ k, k < T → r.getD k z3 = (if k < j then (k : Int) else 0, 0, 0)) (fun i _ => T - i.toNat)
    (fun z => ∃ r, z = ((g, top, ()), (c, r, ())) ∧ r.length = T ∧ ∀ k, k < T → r.getD k z3 = ((k : Int), 0, 0)) (fun i r hI => by
      obtain ⟨j, rfl, hj, hr, hx⟩ := hI
      unfold R10
      refine led_dif (fun q1 => ?_) (fun q1 => led_x ⟨r, rfl, hr, fun k hk => by rw [hx k hk, if_pos (by omega)]⟩)
      have hjT : j < T := by omega
      have hw : IntKind.wrap .i64 ((j : Int) + 1) = (j : Int) + 1 := wr (by omega) (by omega)
      have a1 : (0 : Int) ≤ (j : Int) := by omega
      have a2 : (j : Int) < (r.length : Int) := by omega
      have a3 : j < r.length := by omega
      have hxj := hx j hjT
      simp only [Int.toNat_natCast, hw, a1, a2, a3, hxj, if_true]
      refine led_k ⟨_, _, rfl, ⟨j + 1, by omega, by omega, by rw [List.length_set]; exact hr, fun k hk => ?_⟩, by omega⟩
      rw [getD_setP]
      by_cases e : j = k
      · subst e
        rw [if_pos ⟨rfl, a3⟩, if_pos (by omega)]
      · rw [if_neg (fun q => e q.1), hx k hk]
        by_cases h : k < j
        · rw [if_pos h, if_pos (by omega)]
        · rw [if_neg h, if_neg (by omega)]) 0 (List.replicate T z3) ⟨0, rfl, by omega, by simp, fun k hk => by rw [Hx.getD_rep, if_neg (by omega)]⟩
  obtain ⟨z, hz, r, rfl, h⟩ := key
  exact ⟨r, hz, h⟩
theorem F15_is {g : Option Gr} {top : Int} {c : List Int} {T : Nat} (hl : c.length ≤ 4096) (hc : ∀ v, v < c.length → 0 ≤ c.getD v 0 ∧ c.getD v 0 < T) {r0 : List (Int × (Int × Int))} (h0 : r0.length = T) (hr0 : ∀ k, k < T → r0.getD k z3 = ((k : Int), 0, 0)) :
    ∃ r, F15 g top (c.length : Int) 0 c r0 = some ((g, top, ()), (c, r, ())) ∧ r.length = T ∧ ∀ k, k < T → r.getD k z3 = ((k : Int), (c.count (k : Int) : Int), 0) := by
  have key := F15_inv (g0 := g) (top4 := top) (t41 := (c.length : Int)) (r0 := c) (fun i r => ∃ j : Nat, i = (j : Int) ∧ j ≤ c.length ∧ r.length = T ∧ ∀ k, k < T → r.getD k z3 = ((k : Int), ((c.take j).count (k : Int) : Int), 0)) (fun i _ => c.length - i.toNat)
    (fun z => ∃ r, z = ((g, top, ()), (c, r, ())) ∧ r.length = T ∧ ∀ k, k < T → r.getD k z3 = ((k : Int), (c.count (k : Int) : Int), 0)) (fun i r hI => by
      obtain ⟨j, rfl, hj, hr, hx⟩ := hI
      unfold R15
      refine led_dif (fun q1 => ?_) (fun q1 => led_x ⟨r, rfl, hr, fun k hk => by rw [hx k hk, List.take_of_length_le (by omega)]⟩)
      have hjl : j < c.length := by omega
      have hw : IntKind.wrap .i64 ((j : Int) + 1) = (j : Int) + 1 := wr (by omega) (by omega)
      have tk := take_snoc 0 c j hjl
      obtain ⟨x, hxe⟩ : ∃ x : Nat, c.getD j 0 = (x : Int) := ⟨(c.getD j 0).toNat, by have := hc j hjl; omega⟩
      have hxT : x < T := by have := (hc j hjl).2; omega
      rw [hxe] at tk
      have hcl := List.count_le_length (a := (x : Int)) (l := c.take j)
      rw [List.length_take] at hcl
      have a1 : (0 : Int) ≤ (j : Int) := by omega
      have a2 : (0 : Int) ≤ (x : Int) := by omega
      have a3 : (x : Int) < (r.length : Int) := by omega
      have a4 : x < r.length := by omega
      have hxx := hx x hxT
      have hw2 : IntKind.wrap .i64 (((c.take j).count (x : Int) : Int) + 1) = ((c.take j).count (x : Int) : Int) + 1 := wr (by omega) (by omega)
      simp only [Int.toNat_natCast, hxe, hw, a1, a2, a3, a4, q1, hxx, hw2, if_true]
      refine led_k ⟨_, _, rfl, ⟨j + 1, by omega, by omega, by rw [List.length_set]; exact hr, fun k hk => ?_⟩, by omega⟩
      rw [getD_setP, tk, count_snoc]
      by_cases e : x = k
      · subst e
        rw [if_pos ⟨rfl, a4⟩, if_pos (by rw [beq_iff_eq])]
        rfl
      · rw [if_neg (fun q => e q.1), hx k hk, if_neg (by rw [beq_iff_eq]; omega)]
        rfl) 0 r0 ⟨0, rfl, by omega, h0, fun k hk => by rw [hr0 k hk]; rfl⟩
  obtain ⟨z, hz, r, rfl, h⟩ := key
  exact ⟨r, hz, h⟩
/-- The lesser core of a pair's ends. -/
def low (c : List Int) (p : Nat × Nat) : Int := min (c.getD p.1 0) (c.getD p.2 0)
theorem F20_is {top : Int} {c : List Int} {T : Nat} (hc : ∀ v, v < c.length → 0 ≤ c.getD v 0 ∧ c.getD v 0 < T) {ps : List (Nat × Nat)} (hps : ps.length ≤ 1099511627776) (hin : ∀ p ∈ ps, p.1 < c.length ∧ p.2 < c.length) {r0 : List (Int × (Int × Int))} (h0 : r0.length = T) (hr0 : ∀ k, k < T → r0.getD k z3 = ((k : Int), (c.count (k : Int) : Int), 0)) :
    ∃ r, F20 top (upP ps) ((upP ps).length : Int) 0 c r0 = some ((top, ()), (r, ())) ∧ r.length = T ∧ ∀ k, k < T → r.getD k z3 = ((k : Int), (c.count (k : Int) : Int), (ps.countP (fun p => low c p == (k : Int)) : Int)) := by
  have hul : (upP ps).length = ps.length := by unfold upP; rw [List.length_map]
  have key := F20_inv (top4 := top) (t56 := upP ps) (t57 := ((upP ps).length : Int)) (r0 := c) (fun i r => ∃ j : Nat, i = (j : Int) ∧ j ≤ ps.length ∧ r.length = T ∧ ∀ k, k < T → r.getD k z3 = ((k : Int), (c.count (k : Int) : Int), ((ps.take j).countP (fun p => low c p == (k : Int)) : Int))) (fun i _ => ps.length - i.toNat)
    (fun z => ∃ r, z = ((top, ()), (r, ())) ∧ r.length = T ∧ ∀ k, k < T → r.getD k z3 = ((k : Int), (c.count (k : Int) : Int), (ps.countP (fun p => low c p == (k : Int)) : Int))) (fun i r hI => by
      obtain ⟨j, rfl, hj, hr, hx⟩ := hI
      unfold R20
      refine led_dif (fun q1 => ?_) (fun q1 => led_x ⟨r, rfl, hr, fun k hk => by rw [hx k hk, List.take_of_length_le (by omega)]⟩)
      have hjl : j < ps.length := by omega
      have hw : IntKind.wrap .i64 ((j : Int) + 1) = (j : Int) + 1 := wr (by omega) (by omega)
      have tk := take_snoc (0, 0) ps j hjl
      have hm := mem_getD (0, 0) ps j hjl
      have hup : (upP ps).getD j ((0 : Int), (0 : Int)) = (((ps.getD j (0, 0)).1 : Int), ((ps.getD j (0, 0)).2 : Int)) := by
        simp [upP, List.getD_eq_getElem?_getD, hjl]
      obtain ⟨p, hp⟩ : ∃ p, p = ps.getD j (0, 0) := ⟨_, rfl⟩
      rw [← hp] at tk hm hup
      obtain ⟨u, v⟩ := p
      have huv := hin _ hm
      have hcu := hc u huv.1
      have hcv := hc v huv.2
      obtain ⟨x, hxe⟩ : ∃ x : Nat, (if c.getD v 0 < c.getD u 0 then c.getD v 0 else c.getD u 0) = (x : Int) ∧ low c (u, v) = (x : Int) := by
        have hlo : low c (u, v) = min (c.getD u 0) (c.getD v 0) := rfl
        rw [hlo]
        refine ⟨(min (c.getD u 0) (c.getD v 0)).toNat, ?_, ?_⟩
        · split <;> omega
        · omega
      have hxT : x < T := by
        have h1 := hxe.2
        rw [show low c (u, v) = min (c.getD u 0) (c.getD v 0) from rfl] at h1
        omega
      have hcl := List.countP_le_length (p := fun p => low c p == (x : Int)) (l := ps.take j)
      rw [List.length_take] at hcl
      have a1 : (0 : Int) ≤ (j : Int) := by omega
      have a2 : (0 : Int) ≤ (x : Int) := by omega
      have a3 : (x : Int) < (r.length : Int) := by omega
      have a4 : x < r.length := by omega
      have a5 : (j : Int) < ((upP ps).length : Int) := by omega
      have a6 : (0 : Int) ≤ (u : Int) := by omega
      have a7 : (0 : Int) ≤ (v : Int) := by omega
      have a8 : (u : Int) < (c.length : Int) := by omega
      have a9 : (v : Int) < (c.length : Int) := by omega
      have hxx := hx x hxT
      have hw2 : IntKind.wrap .i64 (((ps.take j).countP (fun p => low c p == (x : Int)) : Int) + 1) = ((ps.take j).countP (fun p => low c p == (x : Int)) : Int) + 1 := wr (by omega) (by omega)
      simp only [Int.toNat_natCast, hup, hxe.1, hw, a1, a2, a3, a4, a5, a6, a7, a8, a9, hxx, hw2, if_true]
      refine led_k ⟨_, _, rfl, ⟨j + 1, by omega, by omega, by rw [List.length_set]; exact hr, fun k hk => ?_⟩, by omega⟩
      rw [getD_setP, tk, List.countP_append, List.countP_singleton, hxe.2]
      by_cases e : x = k
      · subst e
        rw [if_pos ⟨rfl, a4⟩, if_pos (by rw [beq_iff_eq])]
        rfl
      · rw [if_neg (fun q => e q.1), hx k hk, if_neg (by rw [beq_iff_eq]; omega)]
        rfl) 0 r0 ⟨0, rfl, by omega, h0, fun k hk => by rw [hr0 k hk]; rfl⟩
  obtain ⟨z, hz, r, rfl, h⟩ := key
  exact ⟨r, hz, h⟩
theorem count_ge {α : Type} (f : α → Int) (k : Int) : ∀ l : List α, l.countP (fun p => f p == k) + l.countP (fun p => decide (f p ≥ k + 1)) = l.countP (fun p => decide (f p ≥ k))
  | [] => rfl
  | x :: l => by
    have ih := count_ge f k l
    simp only [List.countP_cons, beq_iff_eq, decide_eq_true_eq]
    split <;> split <;> split <;> omega
theorem F25_is {c : List Int} {T : Nat} (hT : T ≤ 4096) {ps : List (Nat × Nat)} (hps : ps.length ≤ 1099511627776) (hlow : ∀ p ∈ ps, low c p < T) {r0 : List (Int × (Int × Int))} (h0 : r0.length = T) (hr0 : ∀ k, k < T → r0.getD k z3 = ((k : Int), (c.count (k : Int) : Int), (ps.countP (fun p => low c p == (k : Int)) : Int))) :
    ∃ r, F25 ((T : Int) - 2) r0 = some ((), (r, ())) ∧ r.length = T ∧ ∀ k, k < T → r.getD k z3 = ((k : Int), (c.count (k : Int) : Int), (ps.countP (fun p => decide (low c p ≥ (k : Int))) : Int)) := by
  have key := F25_inv (fun i r => -2 ≤ i ∧ i ≤ (T : Int) - 2 ∧ r.length = T ∧ ∀ k, k < T → r.getD k z3 = ((k : Int), (c.count (k : Int) : Int), if i < (k : Int) then (ps.countP (fun p => decide (low c p ≥ (k : Int))) : Int) else (ps.countP (fun p => low c p == (k : Int)) : Int))) (fun i _ => (i + 2).toNat)
    (fun z => ∃ r, z = ((), (r, ())) ∧ r.length = T ∧ ∀ k, k < T → r.getD k z3 = ((k : Int), (c.count (k : Int) : Int), (ps.countP (fun p => decide (low c p ≥ (k : Int))) : Int))) (fun i r hI => by
      obtain ⟨hi1, hi2, hr, hx⟩ := hI
      unfold R25
      refine led_dif (fun q1 => ?_) (fun q1 => led_x ⟨r, rfl, hr, fun k hk => by rw [hx k hk, if_pos (by omega)]⟩)
      obtain ⟨j, rfl⟩ : ∃ j : Nat, i = (j : Int) := ⟨i.toNat, by omega⟩
      have hj : j + 1 < T := by omega
      have hw : IntKind.wrap .i64 ((j : Int) + 1) = ((j + 1 : Nat) : Int) := by rw [wr (by omega) (by omega)]; omega
      have hw1 : IntKind.wrap .i64 ((j : Int) - 1) = (j : Int) - 1 := wr (by omega) (by omega)
      have x1 := hx j (by omega)
      have x2 := hx (j + 1) (by omega)
      rw [if_neg (by omega)] at x1
      rw [if_pos (by omega)] at x2
      have cg := count_ge (low c) (j : Int) ps
      have cl := List.countP_le_length (p := fun p => decide (low c p ≥ (j : Int))) (l := ps)
      have e1 : ((j + 1 : Nat) : Int) = (j : Int) + 1 := by omega
      rw [e1] at x2
      have hw2 : IntKind.wrap .i64 ((ps.countP (fun p => low c p == (j : Int)) : Int) + (ps.countP (fun p => decide (low c p ≥ (j : Int) + 1)) : Int)) = (ps.countP (fun p => decide (low c p ≥ (j : Int))) : Int) := by
        rw [wr (by omega) (by omega)]; omega
      have a1 : (0 : Int) ≤ (j : Int) := by omega
      have a2 : (j : Int) < (r.length : Int) := by omega
      have a3 : (0 : Int) ≤ ((j + 1 : Nat) : Int) := by omega
      have a4 : ((j + 1 : Nat) : Int) < (r.length : Int) := by omega
      have a5 : j < r.length := by omega
      simp only [hw, hw1, Int.toNat_natCast, x1, x2, hw2, a1, a2, a3, a4, a5, if_true]
      refine led_k ⟨_, _, rfl, ⟨by omega, by omega, by rw [List.length_set]; exact hr, fun k hk => ?_⟩, by omega⟩
      rw [getD_setP]
      by_cases e : j = k
      · subst e
        rw [if_pos ⟨rfl, a5⟩, if_pos (by omega)]
      · rw [if_neg (fun q => e q.1), hx k hk]
        by_cases h : (j : Int) < (k : Int)
        · rw [if_pos h, if_pos (by omega)]
        · rw [if_neg h, if_neg (by omega)]) ((T : Int) - 2) r0 ⟨by omega, by omega, h0, fun k hk => by
      rw [hr0 k hk]
      by_cases h : (T : Int) - 2 < (k : Int)
      · rw [if_pos h]
        have : ps.countP (fun p => low c p == (k : Int)) = ps.countP (fun p => decide (low c p ≥ (k : Int))) := List.countP_congr (fun p hp => by
          have := hlow p hp
          rw [beq_iff_eq, decide_eq_true_eq]
          omega)
        rw [this]
      · rw [if_neg h]⟩
  obtain ⟨z, hz, r, rfl, h⟩ := key
  exact ⟨r, hz, h⟩
theorem low_core {c : List Int} {k : Int} {p : Nat × Nat} (h1 : p.1 < c.length) (h2 : p.2 < c.length) : decide (low c p ≥ k) = keepP (coreAt c k) p := by
  unfold low keepP coreAt
  have e : ∀ v, v < c.length → (c.map (fun x => decide (x ≥ k))).getD v false = decide (c.getD v 0 ≥ k) := fun v hv => by
    simp [List.getD_eq_getElem?_getD, hv]
  rw [e _ h1, e _ h2, ← Bool.decide_and]
  exact decide_eq_decide.2 (by omega)
theorem is {G : Gr} (hG : G.Ok) (hn : G.n ≤ 4096) : pre (some G) = true ∧ fn (some G) = (shellsOf G, ()) := by
  have hl := coresOf_len hG hn
  obtain ⟨m1, m2, m3, m4, m5⟩ := max_cores hG hn
  have hT : (maxTo (-1) (coresOf G) + 1) = (tops (coresOf G) : Int) := by
    unfold tops
    by_cases h : G.n = 0
    · rw [m4 h]; rfl
    · rw [m3 (by omega)]; omega
  have hT2 : tops (coresOf G) ≤ 4096 := by
    by_cases h : G.n = 0
    · rw [m4 h] at hT; omega
    · rw [m3 (by omega)] at hT; omega
  have hc : ∀ v, v < (coresOf G).length → 0 ≤ (coresOf G).getD v 0 ∧ (coresOf G).getD v 0 < tops (coresOf G) := fun v hv => by
    obtain ⟨k, h1, h2, h3⟩ := coresOf_at hG hn (v := v) (by omega)
    have := m5 v (by omega)
    rw [m3 (by omega)] at hT
    omega
  have hps : G.pairs.length ≤ 1099511627776 := by
    have h1 : G.pairs.length ≤ G.n * G.n := edges_le G
    have := sq_le (Nat.le_refl G.n) hn
    omega
  have hin : ∀ p ∈ G.pairs, p.1 < (coresOf G).length ∧ p.2 < (coresOf G).length := fun p hp => by
    obtain ⟨u, v⟩ := p
    have := (Gr.mem_pairs hG).1 hp
    have h1 := hG.rng u v this.2
    have h2 := hG.rng' this.2
    exact ⟨by omega, by omega⟩
  obtain ⟨r1, e1, l1, x1⟩ := F10_is (g := some G) (top := maxTo (-1) (coresOf G)) (c := coresOf G) hT2
  obtain ⟨r2, e2, l2, x2⟩ := F15_is (g := some G) (top := maxTo (-1) (coresOf G)) (show (coresOf G).length ≤ 4096 by omega) hc l1 x1
  obtain ⟨r3, e3, l3, x3⟩ := F20_is (top := maxTo (-1) (coresOf G)) hc hps hin l2 x2
  obtain ⟨r4, e4, l4, x4⟩ := F25_is hT2 hps (fun p hp => by
    have h := hin p hp
    have := hc _ h.1
    unfold low
    omega) l3 x3
  have hfin : r4 = shellsOf G := ext_getD z3 (by rw [l4]; unfold shellsOf shellsTo; rw [List.length_map, List.length_range]) (fun k hk => by
    rw [l4] at hk
    rw [x4 k hk]
    unfold shellsOf shellsTo
    rw [range_map_at z3 _ hk]
    unfold shellAt insideE
    rw [List.countP_congr (fun p hp => by rw [low_core (hin p hp).1 (hin p hp).2])])
  have hpP : Pairs.pre (some G) = true ∧ (Pairs.fn (some G)).1 = upP G.pairs := ⟨show (true && decide (G.n ≤ 4096)) = true by rw [decide_eq_true hn]; rfl, rfl⟩
  have hpC : Cores.pre (some G) = true := show (true && decide (G.n ≤ 4096)) = true by rw [decide_eq_true hn]; rfl
  have hfC : Cores.fn (some G) = (coresOf G, ()) := rfl
  have hw : IntKind.wrap .i64 (maxTo (-1) (coresOf G) + 1) = (tops (coresOf G) : Int) := by rw [hT, wr (by omega) (by omega)]
  have hw2 : IntKind.wrap .i64 (maxTo (-1) (coresOf G) - 1) = (tops (coresOf G) : Int) - 2 := by rw [← hT, wr (by omega) (by omega)]; omega
  have a1 : (0 : Int) ≤ (tops (coresOf G) : Int) := by omega
  have room : tops (coresOf G) * 24 ≤ 140737488355328 := by omega
  have hrl : (List.replicate (tops (coresOf G)) z3).length = tops (coresOf G) := by simp
  refine is_fn _ ?_
  unfold run'
  simp only [hpC, hfC, F4_is (show (coresOf G).length ≤ 4096 by omega), hw, Int.toNat_natCast, a1, room, hrl, e1, e2, hpP.1, hpP.2, e3, hw2, e4, hfin, if_true]
end ShellsP
end Go.Proofs.Ythbojpaghbbnnaa.Z
namespace Go.Proofs.Ythbojpaghbbnnaa.Z
open Go Go.RowKit
set_option linter.unusedVariables false
set_option linter.unusedSimpArgs false
/-- How many w above v are neighbours of u and of v. -/
def triAt (G : Gr) (u v : Nat) : Nat := (G.nb u).countP (fun w => decide (v < w) && G.adj v w)
def triTo (G : Gr) : List (Nat × Nat) → Nat
  | [] => 0
  | p :: ps => triAt G p.1 p.2 + triTo G ps
def triOf (G : Gr) : Nat := triTo G G.pairs
theorem triTo_app (G : Gr) : ∀ a b : List (Nat × Nat), triTo G (a ++ b) = triTo G a + triTo G b
  | [], b => by simp [triTo]
  | p :: a, b => by
    rw [List.cons_append, triTo, triTo, triTo_app G a b]
    omega
theorem triAt_le (G : Gr) (u v : Nat) : triAt G u v ≤ G.n := Nat.le_trans List.countP_le_length (G.nb_length_le u)
theorem triTo_le (G : Gr) : ∀ l : List (Nat × Nat), triTo G l ≤ l.length * G.n
  | [] => by simp [triTo]
  | p :: l => by
    have ih := triTo_le G l
    have h := triAt_le G p.1 p.2
    rw [triTo, List.length_cons, Nat.succ_mul]
    omega
/-- What two rising lists have in common above v. -/
def cnt (v : Int) (a b : List Int) : Nat := a.countP (fun w => decide (w > v) && decide (w ∈ b))
theorem cnt_lt {v x y : Int} {a b : List Int} (hb : Srt (y :: b)) (h : x < y) : cnt v (x :: a) (y :: b) = cnt v a (y :: b) := by
  unfold cnt
  rw [List.countP_cons, if_neg]
  · rfl
  · rw [Bool.and_eq_true, decide_eq_true_eq, decide_eq_true_eq]
    rintro ⟨_, hm⟩
    rcases List.mem_cons.1 hm with e | e
    · omega
    · have := (List.pairwise_cons.1 hb).1 x e
      omega
theorem cnt_gt {v x y : Int} {a b : List Int} (ha : Srt (x :: a)) (h : y < x) : cnt v (x :: a) (y :: b) = cnt v (x :: a) b := by
  unfold cnt
  refine List.countP_congr (fun w hw => ?_)
  have hwx : x ≤ w := by
    rcases List.mem_cons.1 hw with e | e
    · omega
    · have := (List.pairwise_cons.1 ha).1 w e
      omega
  have : (w ∈ y :: b) ↔ w ∈ b := by
    rw [List.mem_cons]
    exact ⟨fun q => q.elim (fun e => by omega) id, .inr⟩
  simp only [Bool.and_eq_true, decide_eq_true_eq, this]
theorem cnt_eq {v x : Int} {a b : List Int} (ha : Srt (x :: a)) : cnt v (x :: a) (x :: b) = cnt v a b + if x > v then 1 else 0 := by
  unfold cnt
  rw [List.countP_cons]
  have h1 : a.countP (fun w => decide (w > v) && decide (w ∈ x :: b)) = a.countP (fun w => decide (w > v) && decide (w ∈ b)) := List.countP_congr (fun w hw => by
    have := (List.pairwise_cons.1 ha).1 w hw
    have : (w ∈ x :: b) ↔ w ∈ b := by
      rw [List.mem_cons]
      exact ⟨fun q => q.elim (fun e => by omega) id, .inr⟩
    simp only [Bool.and_eq_true, decide_eq_true_eq, this])
  rw [h1]
  by_cases h : x > v
  · simp [h]
  · simp [h]
namespace TriP
theorem F6_is {g : Option Gr} {t9 : List (Int × Int)} {t10 t11 x v : Int} {n0 : Nat} (hn : n0 ≤ 1099511627776) {a0 b0 : List Int} (ha : Srt a0) (hb : Srt b0) (hl : a0.length ≤ 4096) :
    F6 g (n0 : Int) a0 b0 t9 t10 t11 x v = some ((g, ((n0 + cnt v a0 b0 : Nat) : Int), t9, t10, t11, ()), ()) := by
  have hcl : cnt v a0 b0 ≤ a0.length := List.countP_le_length
  have key := F6_inv (g0 := g) (t9 := t9) (t10 := t10) (t11 := t11) (c0x0 := x) (c0x1 := v)
    (fun n a b => ∃ m : Nat, n = (m : Int) ∧ m + cnt v a b = n0 + cnt v a0 b0 ∧ Srt a ∧ Srt b) (fun _ a b => a.length + b.length)
    (fun z => z = ((g, ((n0 + cnt v a0 b0 : Nat) : Int), t9, t10, t11, ()), ())) (fun n a b hI => by
      obtain ⟨m, rfl, hm, sa, sb⟩ := hI
      have hw : IntKind.wrap .i64 ((m : Int) + 1) = (m : Int) + 1 := wr (by omega) (by omega)
      unfold R6
      refine led_dif (fun q1 => ?_) (fun q1 => led_x ?_)
      · refine led_dif (fun q2 => ?_) (fun q2 => led_x ?_)
        · cases a with
          | nil => simp at q1
          | cons y a =>
            cases b with
            | nil => simp at q2
            | cons w b =>
              have d1 : List.drop (Int.toNat 1) (y :: a) = a := rfl
              have d2 : List.drop (Int.toNat 1) (w :: b) = b := rfl
              have g1 : List.getD (y :: a) (Int.toNat 0) 0 = y := rfl
              have g2 : List.getD (w :: b) (Int.toNat 0) 0 = w := rfl
              have a1 : (0 : Int) < ((y :: a).length : Int) := by rw [List.length_cons]; omega
              have a2 : (0 : Int) < ((w :: b).length : Int) := by rw [List.length_cons]; omega
              have a3 : (1 : Int) ≤ ((y :: a).length : Int) := by rw [List.length_cons]; omega
              have a4 : (1 : Int) ≤ ((w :: b).length : Int) := by rw [List.length_cons]; omega
              have sa2 : Srt a := (List.pairwise_cons.1 sa).2
              have sb2 : Srt b := (List.pairwise_cons.1 sb).2
              simp only [g1, g2, d1, d2, a1, a2, a3, a4, hw, if_true]
              refine led_dif (fun q3 => ?_) (fun q3 => ?_)
              · rw [cnt_lt sb q3] at hm
                exact led_k ⟨_, _, _, rfl, ⟨m, rfl, hm, sa2, sb⟩, by simp only [List.length_cons]; omega⟩
              · refine led_dif (fun q4 => ?_) (fun q4 => ?_)
                · rw [cnt_gt sa q4] at hm
                  exact led_k ⟨_, _, _, rfl, ⟨m, rfl, hm, sa, sb2⟩, by simp only [List.length_cons]; omega⟩
                · obtain rfl : y = w := by omega
                  rw [cnt_eq sa] at hm
                  refine led_dif (fun q5 => ?_) (fun q5 => ?_)
                  · rw [if_pos q5] at hm
                    exact led_k ⟨_, _, _, rfl, ⟨m + 1, by omega, by omega, sa2, sb2⟩, by simp only [List.length_cons]; omega⟩
                  · rw [if_neg q5] at hm
                    exact led_k ⟨_, _, _, rfl, ⟨m, rfl, by omega, sa2, sb2⟩, by simp only [List.length_cons]; omega⟩
        · have e : b = [] := List.length_eq_zero_iff.1 (by omega)
          have e0 : cnt v a b = 0 := by
            rw [e]
            unfold cnt
            rw [List.countP_eq_zero]
            intro w _
            simp
          rw [← hm, e0]
          rfl
      · have e : a = [] := List.length_eq_zero_iff.1 (by omega)
        have e0 : cnt v a b = 0 := by rw [e]; rfl
        rw [← hm, e0]
        rfl) (n0 : Int) a0 b0 ⟨n0, rfl, rfl, ha, hb⟩
  obtain ⟨z, hz, rfl⟩ := key
  exact hz
theorem cnt_is {G : Gr} (hG : G.Ok) (u v : Nat) : cnt (v : Int) (up (G.nb u)) (up (G.nb v)) = triAt G u v := by
  unfold cnt triAt up
  rw [List.countP_map]
  refine List.countP_congr (fun w hw => ?_)
  have : ((w : Int) ∈ (G.nb v).map (fun x : Nat => (x : Int))) ↔ G.adj v w = true := by
    rw [show (G.nb v).map (fun x : Nat => (x : Int)) = up (G.nb v) from rfl, mem_up' hG]
    exact ⟨fun ⟨x, h1, h2⟩ => by
      obtain rfl : w = x := by omega
      exact h2, fun h => ⟨w, rfl, h⟩⟩
  simp only [Function.comp, Bool.and_eq_true, decide_eq_true_eq, this]
  exact and_congr_left' (by omega)
theorem is {G : Gr} (hG : G.Ok) (hn : G.n ≤ 4096) : pre (some G) = true ∧ fn (some G) = ((triOf G : Int), ()) := by
  have hps : G.pairs.length ≤ 16777216 := Nat.le_trans (edges_le G) (sq_le (Nat.le_refl G.n) hn)
  have hul : (upP G.pairs).length = G.pairs.length := by unfold upP; rw [List.length_map]
  have key := F3_inv (g0 := some G) (t9 := upP G.pairs) (t10 := ((upP G.pairs).length : Int)) (fun n t => ∃ j : Nat, t = (j : Int) ∧ j ≤ G.pairs.length ∧ n = (triTo G (G.pairs.take j) : Int)) (fun _ t => G.pairs.length - t.toNat)
    (fun z => z = (((triOf G : Int), ()), ())) (fun n t hI => by
      obtain ⟨j, rfl, hj, rfl⟩ := hI
      unfold R3
      refine led_dif (fun q1 => ?_) (fun q1 => led_x ?_)
      · have hjl : j < G.pairs.length := by omega
        have hw : IntKind.wrap .i64 ((j : Int) + 1) = (j : Int) + 1 := wr (by omega) (by omega)
        have tk := take_snoc (0, 0) G.pairs j hjl
        have hup : (upP G.pairs).getD j ((0 : Int), (0 : Int)) = (((G.pairs.getD j (0, 0)).1 : Int), ((G.pairs.getD j (0, 0)).2 : Int)) := by
          simp [upP, List.getD_eq_getElem?_getD, hjl]
        obtain ⟨p, hp⟩ : ∃ p, p = G.pairs.getD j (0, 0) := ⟨_, rfl⟩
        rw [← hp] at tk hup
        obtain ⟨u, v⟩ := p
        have ht := triTo_le G (G.pairs.take j)
        rw [List.length_take] at ht
        have ht2 : min j G.pairs.length * G.n ≤ 16777216 * 4096 := Nat.mul_le_mul (by omega) hn
        have hf := F6_is (g := some G) (t9 := upP G.pairs) (t10 := ((upP G.pairs).length : Int)) (t11 := (j : Int)) (x := (u : Int)) (v := (v : Int)) (n0 := triTo G (G.pairs.take j)) (by omega) (up_srt G u) (up_srt G v) (by have := up_len_le G u; omega)
        rw [cnt_is hG] at hf
        have a1 : (0 : Int) ≤ (j : Int) := by omega
        have a2 : (j : Int) < ((upP G.pairs).length : Int) := by omega
        have hp1 : ∀ x, Neighbours.pre (some G) x = true := fun _ => rfl
        have hf1 : ∀ x : Nat, Neighbours.fn (some G) (x : Int) = (up (G.nb x), ()) := fun x => by unfold Neighbours.fn; rw [gr_some, nbz_at]
        simp only [Int.toNat_natCast, hup, hp1, hf1, a1, a2, hf, hw, if_true]
        refine led_k ⟨_, _, rfl, ⟨j + 1, by omega, by omega, ?_⟩, by omega⟩
        rw [tk, triTo_app, triTo, triTo]
        rfl
      · obtain rfl : j = G.pairs.length := by omega
        rw [List.take_length]
        rfl) 0 0 ⟨0, rfl, by omega, rfl⟩
  obtain ⟨z, hz, rfl⟩ := key
  have hpP : Pairs.pre (some G) = true ∧ (Pairs.fn (some G)).1 = upP G.pairs := ⟨show (true && decide (G.n ≤ 4096)) = true by rw [decide_eq_true hn]; rfl, rfl⟩
  refine is_fn _ ?_
  unfold run'
  simp only [hpP.1, hpP.2, hz, if_true]
end TriP
end Go.Proofs.Ythbojpaghbbnnaa.Z
namespace Go.Proofs.Ythbojpaghbbnnaa.Z
open Go Go.RowKit
set_option linter.unusedVariables false
set_option linter.unusedSimpArgs false
abbrev fm : Ieee.Format := Go.FloatKind.format Go.FloatKind.f64
theorem fm_frac : fm.fractionBits = 52 := rfl
theorem fm_binade : fm.binade = 4503599627370496 := by decide
theorem fm_least : fm.leastPlace = -1074 := by decide
theorem fm_inf : fm.infRung = 9218868437227405312 := by decide
theorem fm_sign : fm.signWeight = 9223372036854775808 := by decide
theorem log_lt {n : Nat} (h0 : 0 < n) (h : n < 9007199254740992) : n.log2 < 53 := by
  have e : (2 : Nat) ^ 53 = 9007199254740992 := by decide
  exact (Nat.log2_lt (by omega)).2 (by omega)
/-- A whole number's significand. -/
theorem sig_is {n : Nat} (h0 : 0 < n) (h : n < 9007199254740992) : 4503599627370496 ≤ n * 2 ^ (52 - n.log2) ∧ n * 2 ^ (52 - n.log2) < 9007199254740992 := by
  have hl := log_lt h0 h
  have h1 := Nat.log2_self_le (show n ≠ 0 by omega)
  have h2 := Nat.lt_log2_self (n := n)
  have e : 2 ^ n.log2 * 2 ^ (52 - n.log2) = 4503599627370496 := by
    rw [← Nat.pow_add, show n.log2 + (52 - n.log2) = 52 by omega]
  have hp : 0 < 2 ^ (52 - n.log2) := Nat.pow_pos (by decide)
  have e2 : 2 ^ (n.log2 + 1) * 2 ^ (52 - n.log2) = 9007199254740992 := by
    rw [Nat.pow_succ, Nat.mul_right_comm, e]
  refine ⟨?_, ?_⟩
  · rw [← e]; exact Nat.mul_le_mul_right _ h1
  · rw [← e2]; exact Nat.mul_lt_mul_of_pos_right h2 hp
theorem near_is {n : Nat} (h0 : 0 < n) (h : n < 9007199254740992) : Go.FloatKind.nearest Go.FloatKind.f64 (n : Int) = (n.log2 + 1022) * 4503599627370496 + n * 2 ^ (52 - n.log2) := by
  have hl := log_lt h0 h
  have hs := sig_is h0 h
  show fm.nearest (decide ((n : Int) < 0)) (Int.natAbs (n : Int)) 0 = _
  rw [decide_eq_false (by omega), Int.natAbs_natCast]
  unfold Ieee.Format.nearest
  rw [if_neg (by omega)]
  have e1 : max ((0 : Int) + (n.log2 : Int) - (fm.fractionBits : Int)) fm.leastPlace = (n.log2 : Int) - 52 := by
    rw [fm_least, fm_frac]
    omega
  have e2 : ((0 : Int) - ((n.log2 : Int) - 52)).toNat = 52 - n.log2 := by omega
  have e3 : (((n.log2 : Int) - 52) - 0).toNat = 0 := by omega
  have e4 : (((n.log2 : Int) - 52) - fm.leastPlace).toNat = n.log2 + 1022 := by rw [fm_least]; omega
  simp only [e1, e2, e3, e4]
  have e5 : Ieee.Toward.even.cut false (n <<< (52 - n.log2)) 0 = n * 2 ^ (52 - n.log2) := by
    rw [Nat.shiftLeft_eq]
    unfold Ieee.Toward.cut
    simp only [Nat.zero_min, Nat.shiftLeft_zero, Nat.div_one, Nat.mod_one]
    rfl
  rw [e5, fm_binade, fm_inf]
  unfold Ieee.Format.word
  rw [if_neg (by simp)]
  omega
theorem read_near {n : Nat} (h0 : 0 < n) (h : n < 9007199254740992) : fm.read (Go.FloatKind.nearest Go.FloatKind.f64 (n : Int)) = .number false (n * 2 ^ (52 - n.log2)) ((n.log2 : Int) - 52) := by
  have hl := log_lt h0 h
  have hs := sig_is h0 h
  rw [near_is h0 h]
  obtain ⟨m, hm⟩ : ∃ m, m = n * 2 ^ (52 - n.log2) := ⟨_, rfl⟩
  rw [← hm] at hs ⊢
  obtain ⟨L, hL⟩ : ∃ L, L = n.log2 := ⟨_, rfl⟩
  rw [← hL] at hl ⊢
  unfold Ieee.Format.read
  have e1 : ((L + 1022) * 4503599627370496 + m) / fm.signWeight % 2 = 0 := by rw [fm_sign]; omega
  have e2 : ((L + 1022) * 4503599627370496 + m) % fm.signWeight = (L + 1022) * 4503599627370496 + m := by rw [fm_sign]; omega
  have e3 : ¬ (L + 1022) * 4503599627370496 + m < fm.binade := by rw [fm_binade]; omega
  have e4 : (L + 1022) * 4503599627370496 + m < fm.infRung := by rw [fm_inf]; omega
  have e5 : ((L + 1022) * 4503599627370496 + m) % fm.binade = m - 4503599627370496 := by rw [fm_binade]; omega
  have e6 : ((L + 1022) * 4503599627370496 + m) / fm.binade = L + 1023 := by rw [fm_binade]; omega
  simp only [e1, e2, e5, e6]
  rw [if_neg e3, if_pos e4, fm_binade, fm_least]
  have e7 : 4503599627370496 + (m - 4503599627370496) = m := by omega
  have e8 : (-1074 : Int) + ((L + 1023 - 1 : Nat) : Int) = (L : Int) - 52 := by omega
  rw [e7, e8]
  rfl
theorem read_zero : fm.read (Go.FloatKind.nearest Go.FloatKind.f64 ((0 : Nat) : Int)) = .number false 0 (-1074) := by decide
/-- The quotient of two whole numbers, as a float. -/
def quot (e c : Nat) : Nat := (Ieee.Format.div fm (Go.FloatKind.nearest Go.FloatKind.f64 (e : Int)) (Go.FloatKind.nearest Go.FloatKind.f64 (c : Int))).getD 0
theorem quot_is {e c : Nat} (he : e < 9007199254740992) (hc : 0 < c) (hc2 : c < 9007199254740992) : Ieee.Format.div fm (Go.FloatKind.nearest Go.FloatKind.f64 (e : Int)) (Go.FloatKind.nearest Go.FloatKind.f64 (c : Int)) = some (quot e c) ∧ ∃ (s : Bool) (m : Nat) (p : Int), quot e c = fm.nearest s m p := by
  have h : ∃ q, Ieee.Format.div fm (Go.FloatKind.nearest Go.FloatKind.f64 (e : Int)) (Go.FloatKind.nearest Go.FloatKind.f64 (c : Int)) = some q ∧ ∃ (s : Bool) (m : Nat) (p : Int), q = fm.nearest s m p := by
    obtain ⟨s, m, i, hr⟩ : ∃ s m i, fm.read (Go.FloatKind.nearest Go.FloatKind.f64 (e : Int)) = .number s m i := by
      rcases Nat.eq_zero_or_pos e with rfl | h0
      · exact ⟨_, _, _, read_zero⟩
      · exact ⟨_, _, _, read_near h0 he⟩
    have hs := sig_is hc hc2
    unfold Ieee.Format.div
    rw [hr, read_near hc hc2]
    unfold Ieee.Datum.quotient
    simp only
    rw [if_neg (by omega)]
    exact ⟨_, rfl, _, _, _, rfl⟩
  obtain ⟨q, h1, h2⟩ := h
  have e1 : quot e c = q := by unfold quot; rw [h1]; rfl
  rw [e1]
  exact ⟨h1, h2⟩
/-- A density: 0 of nobody. -/
def dens (e c : Nat) : Nat := if c = 0 then 0 else quot e c
noncomputable def densAt (G : Gr) (k : Int) : Nat := dens (insideE G (coreAt (coresOf G) k)) ((coreAt (coresOf G) k).count true)
theorem insideE_le {G : Gr} (hn : G.n ≤ 4096) (keep : List Bool) : insideE G keep ≤ 16777216 := by
  unfold insideE
  exact Nat.le_trans List.countP_le_length (Nat.le_trans (edges_le G) (sq_le (Nat.le_refl G.n) hn))
theorem core_len {G : Gr} (hG : G.Ok) (hn : G.n ≤ 4096) (k : Int) : (coreAt (coresOf G) k).length = G.n := by
  unfold coreAt
  rw [List.length_map]
  exact coresOf_len hG hn
theorem core_count (c : List Int) (k : Int) : (coreAt c k).count true = c.countP (fun x => decide (x ≥ k)) := by
  unfold coreAt List.count
  rw [List.countP_map]
  exact List.countP_congr (fun x _ => by simp [Function.comp])
theorem countP_le' {G : Gr} (hG : G.Ok) (hn : G.n ≤ 4096) (k : Int) : (coreAt (coresOf G) k).count true ≤ 4096 := by
  have := List.count_le_length (a := true) (l := coreAt (coresOf G) k)
  rw [core_len hG hn] at this
  omega
theorem count_range (k j : Int) (hk : k ≤ j) : ∀ c : List Int, c.countP (fun x => decide (k ≤ x) && decide (x < j)) + c.count j = c.countP (fun x => decide (k ≤ x) && decide (x < j + 1))
  | [] => rfl
  | x :: c => by
    have ih := count_range k j hk c
    simp only [List.countP_cons, List.count_cons, Bool.and_eq_true, decide_eq_true_eq, beq_iff_eq]
    split <;> split <;> split <;> omega
theorem densP.is {G : Gr} (hG : G.Ok) (hn : G.n ≤ 4096) {k : Nat} (hk : k < tops (coresOf G)) : densP.pre (shellsOf G) (k : Int) = true ∧ densP.fn (shellsOf G) (k : Int) = (densAt G (k : Int), ()) := by
  have hl := coresOf_len hG hn
  obtain ⟨m1, m2, m3, m4, m5⟩ := max_cores hG hn
  have hT2 : tops (coresOf G) ≤ 4096 ∧ 0 < G.n ∧ ((tops (coresOf G) : Nat) : Int) = maxTo 0 (coresOf G) + 1 := by
    unfold tops at hk ⊢
    by_cases h : G.n = 0
    · rw [m4 h] at hk
      have : ((-1 : Int) + 1).toNat = 0 := rfl
      omega
    · rw [m3 (by omega)]; omega
  have hsl : (shellsOf G).length = tops (coresOf G) := by unfold shellsOf shellsTo; rw [List.length_map, List.length_range]
  have hE := insideE_le hn (coreAt (coresOf G) (k : Int))
  have hC := countP_le' hG hn (k : Int)
  have hlt : ∀ x ∈ coresOf G, x < (tops (coresOf G) : Int) := fun x hx => by
    have := (maxTo_ge (coresOf G) 0).2 x hx
    omega
  have hpos : (coreAt (coresOf G) (k : Int)).count true ≠ 0 := by
    rw [core_count, Ne, List.countP_eq_zero]
    intro h
    rcases maxTo_mem (coresOf G) 0 with e | e
    · have m0 := mem_getD 0 (coresOf G) 0 (by omega)
      have := h _ m0
      obtain ⟨q, h1, h2, h3⟩ := coresOf_at hG hn (v := 0) (by omega)
      rw [decide_eq_true_eq] at this
      omega
    · have := h _ e
      rw [decide_eq_true_eq] at this
      omega
  have hdl : ((shellsOf G).drop k).length = tops (coresOf G) - k := by rw [List.length_drop, hsl]
  have hdg : ∀ j, k + j < tops (coresOf G) → ((shellsOf G).drop k).getD j ShellsP.z3 = shellAt G (coresOf G) (k + j) := fun j hj => by
    rw [List.getD_eq_getElem?_getD, List.getElem?_drop, ← List.getD_eq_getElem?_getD]
    unfold shellsOf shellsTo
    exact range_map_at ShellsP.z3 _ hj
  have key := densP.F3_inv (l0 := shellsOf G) (k1 := (k : Int)) (t10 := (shellsOf G).drop k) (t11 := (((shellsOf G).drop k).length : Int))
    (fun n t => ∃ j : Nat, t = (j : Int) ∧ k + j ≤ tops (coresOf G) ∧ n = ((coresOf G).countP (fun x => decide ((k : Int) ≤ x) && decide (x < (k : Int) + (j : Int))) : Int)) (fun _ t => tops (coresOf G) - t.toNat)
    (fun z => z = ((shellsOf G, (k : Int), ((coreAt (coresOf G) (k : Int)).count true : Int), ()), ())) (fun n t hI => by
      obtain ⟨j, rfl, hj, rfl⟩ := hI
      unfold densP.R3
      refine led_dif (fun q1 => ?_) (fun q1 => led_x ?_)
      · have hjl : k + j < tops (coresOf G) := by omega
        have hw : IntKind.wrap .i64 ((j : Int) + 1) = (j : Int) + 1 := wr (by omega) (by omega)
        have hx : (List.getD ((shellsOf G).drop k) j ((0 : Int), (0 : Int), (0 : Int))).2.1 = ((coresOf G).count ((k : Int) + (j : Int)) : Int) := by
          rw [show List.getD ((shellsOf G).drop k) j ((0 : Int), (0 : Int), (0 : Int)) = shellAt G (coresOf G) (k + j) from hdg j hjl]
          show ((coresOf G).count ((k + j : Nat) : Int) : Int) = _
          rw [show ((k + j : Nat) : Int) = (k : Int) + (j : Int) by omega]
        have cr := count_range (k : Int) ((k : Int) + (j : Int)) (by omega) (coresOf G)
        have cl := List.countP_le_length (p := fun x => decide ((k : Int) ≤ x) && decide (x < (k : Int) + (j : Int) + 1)) (l := coresOf G)
        have hw2 : IntKind.wrap .i64 (((coresOf G).countP (fun x => decide ((k : Int) ≤ x) && decide (x < (k : Int) + (j : Int))) : Int) + ((coresOf G).count ((k : Int) + (j : Int)) : Int)) = ((coresOf G).countP (fun x => decide ((k : Int) ≤ x) && decide (x < (k : Int) + (j : Int) + 1)) : Int) := by
          rw [wr (by omega) (by omega)]; omega
        have a1 : (0 : Int) ≤ (j : Int) := by omega
        simp only [Int.toNat_natCast, hx, hw, hw2, a1, q1, if_true]
        refine led_k ⟨_, _, rfl, ⟨j + 1, by omega, by omega, ?_⟩, by omega⟩
        rw [show (k : Int) + ((j + 1 : Nat) : Int) = (k : Int) + (j : Int) + 1 by omega]
      · have e1 : k + j = tops (coresOf G) := by omega
        rw [core_count, List.countP_congr (fun x hx => by
          have := hlt x hx
          rw [show (k : Int) + (j : Int) = (tops (coresOf G) : Int) by omega, decide_eq_true this, Bool.and_true])]) 0 0 ⟨0, rfl, by omega, by
      have : (coresOf G).countP (fun x => decide ((k : Int) ≤ x) && decide (x < (k : Int) + ((0 : Nat) : Int))) = 0 := by
        rw [List.countP_eq_zero]
        intro x _
        rw [Bool.and_eq_true, decide_eq_true_eq, decide_eq_true_eq]
        omega
      rw [this]
      rfl⟩
  obtain ⟨z, hz, rfl⟩ := key
  have a1 : (0 : Int) ≤ (k : Int) := by omega
  have a2 : (k : Int) ≤ ((shellsOf G).length : Int) := by omega
  have a3 : (k : Int) < ((shellsOf G).length : Int) := by omega
  have hx : (List.getD (shellsOf G) k ((0 : Int), (0 : Int), (0 : Int))).2.2 = (insideE G (coreAt (coresOf G) (k : Int)) : Int) := by
    unfold shellsOf shellsTo
    rw [range_map_at _ _ hk]
    rfl
  refine densP.is_fn _ _ ?_
  unfold densP.run' densAt dens
  simp only [Int.toNat_natCast, hz, a1, a2, a3, hx, if_true]
  rw [if_neg hpos, (quot_is (show insideE G (coreAt (coresOf G) (k : Int)) < 9007199254740992 by omega) (show 0 < (coreAt (coresOf G) (k : Int)).count true by omega) (by omega)).1]
/-- The densest among the first ones. -/
def ordG (x y : Nat) : Bool := (Ieee.Format.order fm x y == Option.some Ordering.gt || Ieee.Format.order fm x y == Option.some Ordering.eq)
def dstTo (f : Nat → Nat) : Nat → Int × Nat
  | 0 => (0, 0)
  | j + 1 => if ordG (f j) (dstTo f j).2 = true then ((j : Int), f j) else dstTo f j
noncomputable def thickOf (G : Gr) : Int × Nat := dstTo (fun k => densAt G (k : Int)) (tops (coresOf G))
theorem DstP.is {G : Gr} (hG : G.Ok) (hn : G.n ≤ 4096) : DstP.pre (some G) = true ∧ DstP.fn (some G) = ((thickOf G).1, (thickOf G).2, ()) := by
  have hs := ShellsP.is hG hn
  obtain ⟨m1, m2, m3, m4, m5⟩ := max_cores hG hn
  have hT2 : tops (coresOf G) ≤ 4096 := by
    unfold tops
    by_cases h : G.n = 0
    · rw [m4 h]; decide
    · rw [m3 (by omega)]; omega
  have hsl : (shellsOf G).length = tops (coresOf G) := by unfold shellsOf shellsTo; rw [List.length_map, List.length_range]
  have key := DstP.F4_inv (t12 := ((shellsOf G).length : Int)) (r0 := shellsOf G)
    (fun b m t => ∃ j : Nat, t = (j : Int) ∧ j ≤ tops (coresOf G) ∧ b = (dstTo (fun k => densAt G (k : Int)) j).1 ∧ m = (dstTo (fun k => densAt G (k : Int)) j).2) (fun _ _ t => tops (coresOf G) - t.toNat)
    (fun z => z = (((thickOf G).1, (thickOf G).2, ()), ())) (fun b m t hI => by
      obtain ⟨j, rfl, hj, rfl, rfl⟩ := hI
      unfold DstP.R4
      refine led_dif (fun q1 => ?_) (fun q1 => led_x ?_)
      · have hjl : j < tops (coresOf G) := by omega
        have hw : IntKind.wrap .i64 ((j : Int) + 1) = (j : Int) + 1 := wr (by omega) (by omega)
        have hp := densP.is hG hn hjl
        have e : dstTo (fun k => densAt G (k : Int)) (j + 1) = if ordG (densAt G (j : Int)) (dstTo (fun k => densAt G (k : Int)) j).2 = true then ((j : Int), densAt G (j : Int)) else dstTo (fun k => densAt G (k : Int)) j := rfl
        simp only [hp.1, hp.2, hw, if_true]
        by_cases h : ordG (densAt G (j : Int)) (dstTo (fun k => densAt G (k : Int)) j).2 = true
        · rw [if_pos h] at e
          unfold ordG at h
          simp only [h, if_true]
          exact led_k ⟨_, _, _, rfl, ⟨j + 1, by omega, by omega, by rw [e], by rw [e]⟩, by omega⟩
        · rw [if_neg h] at e
          unfold ordG at h
          simp only [h, if_false]
          exact led_k ⟨_, _, _, rfl, ⟨j + 1, by omega, by omega, by rw [e], by rw [e]⟩, by omega⟩
      · obtain rfl : j = tops (coresOf G) := by omega
        rfl) 0 0 0 ⟨0, rfl, by omega, rfl, rfl⟩
  obtain ⟨z, hz, rfl⟩ := key
  refine DstP.is_fn _ ?_
  unfold DstP.run'
  rw [hs.1, hs.2]
  simp only [hz, if_true]
end Go.Proofs.Ythbojpaghbbnnaa.Z
namespace Go.Proofs.Ythbojpaghbbnnaa.Z
open Go Go.RowKit
set_option linter.unusedVariables false
set_option linter.unusedSimpArgs false
namespace PeelHalf
abbrev ps : List PM := [.val I64, .val (.list Pr), .val (.list .bool)]
abbrev rs : List PM := [.val .bool]
noncomputable abbrev code : Code := (Go.Proofs.Try.f26.body.getD .skip)
abbrev s12 : Shape := ⟨[.un, .un, .v (.list .bool), .un, .un, .un, .un, .un, .un, .v (.ptr (.one (.list (.list I64)))), .row 0, .v I64, .un, .row 1, .row 2, .v I64, .un, .un, .un, .un, .un, .un, .un, .un, .un, .un, .un, .un, .un, .un, .un, .un, .un, .un, .un, .un, .un, .un, .un, .un, .un, .un, .un, .un, .un, .un, .un, .un, .un, .un, .un, .un, .un, .un, .un, .un, .un, .un, .un, .un, .un, .un, .un, .un, .un, .un, .un, .un, .un, .un, .un, .un, .un, .un, .un, .un, .un, .un, .un, .un, .un, .un, .un, .un, .un, .un, .un, .un, .un, .un, .un, .un, .un, .un, .un, .un, .un, .un, .un, .un, .un, .un, .un, .un, .un, .un, .un], [.row (3 : Go.TypeId) I64, .row (4 : Go.TypeId) .bool, .row (4 : Go.TypeId) .bool]⟩
abbrev x12 : List Way := [⟨(.ex 0), ⟨[(9, none), (10, none), (13, none), (14, none)]⟩, ⟨[.un, .un, .un, .un, .un, .un, .un, .un, .un, .v (.ptr (.one (.list (.list I64)))), .row 0, .un, .un, .row 1, .row 2, .un, .un, .un, .un, .un, .un, .un, .un, .un, .un, .un, .un, .un, .un, .un, .un, .un, .un, .un, .un, .un, .un, .un, .un, .un, .un, .un, .un, .un, .un, .un, .un, .un, .un, .un, .un, .un, .un, .un, .un, .un, .un, .un, .un, .un, .un, .un, .un, .un, .un, .un, .un, .un, .un, .un, .un, .un, .un, .un, .un, .un, .un, .un, .un, .un, .un, .un, .un, .un, .un, .un, .un, .un, .un, .un, .un, .un, .un, .un, .un, .un, .un, .un, .un, .un, .un, .un, .un, .un, .un, .un, .un], [.row (3 : Go.TypeId) I64, .row (4 : Go.TypeId) .bool, .row (4 : Go.TypeId) .bool]⟩⟩]
abbrev V12 : Type := ((List Bool) × (Option (List (List Int))) × Int × Int × Unit) × ((List Int) × (List Bool) × (List Bool) × Unit)
abbrev X12 : Type := ((Option (List (List Int))) × Unit) × ((List Int) × (List Bool) × (List Bool) × Unit)
noncomputable def R12 {R : Type} (set2 : (List Bool)) (r9 : (Option (List (List Int)))) (k11 : Int) (v15 : Int) (r0 : List Int) (r1 : List Bool) (r2 : List Bool) (k : V12 → Option R) (kx : X12 → Option R) : Option R := (if Decidable.decide (v15 < (↑(List.length r0) : Int)) = Bool.true then (if (0 : Int) ≤ v15 then (if v15 < (↑(List.length r0) : Int) then (if (0 : Int) ≤ v15 then (if v15 < (↑(List.length r1) : Int) then (if Int.toNat v15 < List.length r1 then (if Decidable.decide (v15 ≥ (↑(List.length set2) : Int)) = Bool.false then (if (0 : Int) ≤ v15 then (if v15 < (↑(List.length set2) : Int) then (if (0 : Int) ≤ v15 then (if v15 < (↑(List.length r2) : Int) then (if Int.toNat v15 < List.length r2 then k ((set2, r9, k11, IntKind.wrap .i64 (v15 + (1 : Int)), ()), (r0, List.set r1 (Int.toNat v15) (Decidable.decide (List.getD r0 (Int.toNat v15) (0 : Int) ≥ k11)), List.set r2 (Int.toNat v15) (List.getD set2 (Int.toNat v15) Bool.false), ()))
 else none)
 else none)
 else none)
 else none)
 else none)
 else (if (0 : Int) ≤ v15 then (if v15 < (↑(List.length r2) : Int) then (if Int.toNat v15 < List.length r2 then k ((set2, r9, k11, IntKind.wrap .i64 (v15 + (1 : Int)), ()), (r0, List.set r1 (Int.toNat v15) (Decidable.decide (List.getD r0 (Int.toNat v15) (0 : Int) ≥ k11)), List.set r2 (Int.toNat v15) Bool.true, ()))
 else none)
 else none)
 else none))
 else none)
 else none)
 else none)
 else none)
 else none)
 else kx (((r9, ()), (r0, r1, r2, ()))))
noncomputable def rd12 : Rd (VO s12) (Xs x12) := fun v k kx => match v with
  | ((set2, r9, k11, v15, _), (r0, r1, r2, _)) => R12 set2 r9 k11 v15 r0 r1 r2 k kx
noncomputable def F12 (set2 : (List Bool)) (r9 : (Option (List (List Int)))) (k11 : Int) (v15 : Int) (r0 : List Int) (r1 : List Bool) (r2 : List Bool) : Option X12 := finOf rd12 ((set2, r9, k11, v15, ()), (r0, r1, r2, ()))
theorem F12_inv {set2 : (List Bool)} {r9 : (Option (List (List Int)))} {k11 : Int} {r0 : List Int} (I : Int → List Bool → List Bool → Prop) (μ : Int → List Bool → List Bool → Nat) (Q : X12 → Prop) (h : ∀ (v15 : Int) (r1 : List Bool) (r2 : List Bool), I v15 r1 r2 → Led (fun (R : Type) (k : V12 → Option R) (kx : X12 → Option R) => R12 set2 r9 k11 v15 r0 r1 r2 k kx) (fun v => ∃ (v15' : Int) (r1' : List Bool) (r2' : List Bool), v = ((set2, r9, k11, v15', ()), (r0, r1', r2', ())) ∧ I v15' r1' r2' ∧ μ v15' r1' r2' < μ v15 r1 r2) Q) : ∀ (v15 : Int) (r1 : List Bool) (r2 : List Bool), I v15 r1 r2 → ∃ z, F12 set2 r9 k11 v15 r0 r1 r2 = some z ∧ Q z := fun v15 r1 r2 hi => by
  refine finOf_inv (V := V12) (X := X12) (rd := rd12) (fun v => ∃ (v15' : Int) (r1' : List Bool) (r2' : List Bool), v = ((set2, r9, k11, v15', ()), (r0, r1', r2', ())) ∧ I v15' r1' r2') (fun v => match v with
    | ((set2, r9, k11, v15, _), (r0, r1, r2, _)) => μ v15 r1 r2) Q (fun v hv => ?_) ((set2, r9, k11, v15, ()), (r0, r1, r2, ())) ⟨v15, r1, r2, rfl, hi⟩
  obtain ⟨v15, r1, r2, rfl, hi⟩ := hv
  refine led_mono (h v15 r1 r2 hi) ?_ (fun _ q => q)
  rintro v ⟨v15', r1', r2', rfl, h1, h2⟩
  exact ⟨⟨v15', r1', r2', rfl, h1⟩, h2⟩
noncomputable def L12 : Lp := ⟨12, ⟨[(2, none), (9, none), (10, none), (11, none), (13, none), (14, none), (15, none)]⟩, s12, x12, fun v => match v with
  | ((set2, r9, k11, v15, _), (r0, r1, r2, _)) => F12 set2 r9 k11 v15 r0 r1 r2⟩
theorem ends12 : Ends L12 rd12 := ends_fin (fun v => by
  obtain ⟨⟨set2, r9, k11, v15, _⟩, ⟨r0, r1, r2, _⟩⟩ := v
  rfl)
noncomputable def env : Env := mkEnv tab6 [(80, first6.sig), (81, made6.sig), (82, Cores.sig), (93, N.sig), (95, DstP.sig), (96, Within6.sig), (97, greatL.sig)] 0 [] [L12]
theorem round12 : RoundIs env (sub [true, true, true, true, true, true, true, true, true, false, true, false, false] code) L12 rd12 := fun R v k kx => by kernel_rfl
abbrev D : Type := (Bool × Unit)
noncomputable def run' (n0 : Int) (l1 : (List (Int × Int))) (set2 : (List Bool)) : Option D := (if first6.pre = Bool.true then (if made6.pre n0 l1 = Bool.true then (if (!first6.fn.1) = Bool.false then (if Option.isNone (made6.fn n0 l1).1 = Bool.true then some (Bool.false, ())
 else (if Cores.pre (made6.fn n0 l1).1 = Bool.true then (if N.pre (made6.fn n0 l1).1 = Bool.true then (if ((↑(List.length (Cores.fn (made6.fn n0 l1).1).1) : Int) != (N.fn (made6.fn n0 l1).1).1) = Bool.true then some (Bool.false, ())
 else (if DstP.pre (made6.fn n0 l1).1 = Bool.true then (if (↑(List.length (Cores.fn (made6.fn n0 l1).1).1) : Int) = (↑(List.length (Cores.fn (made6.fn n0 l1).1).1) : Int) then (if Int.toNat (↑(List.length (Cores.fn (made6.fn n0 l1).1).1) : Int) * (1 : Nat) ≤ (140737488355328 : Nat) then (if (↑(List.length (Cores.fn (made6.fn n0 l1).1).1) : Int) = (↑(List.length (Cores.fn (made6.fn n0 l1).1).1) : Int) then (if Int.toNat (↑(List.length (Cores.fn (made6.fn n0 l1).1).1) : Int) * (1 : Nat) ≤ (140737488355328 : Nat) then (match F12 (set2) ((made6.fn n0 l1).2.1) ((DstP.fn (made6.fn n0 l1).1).1) ((0 : Int)) ((Cores.fn (made6.fn n0 l1).1).1) (List.replicate (Int.toNat (↑(List.length (Cores.fn (made6.fn n0 l1).1).1) : Int)) Bool.false) (List.replicate (Int.toNat (↑(List.length (Cores.fn (made6.fn n0 l1).1).1) : Int)) Bool.false) with
  | some (((r9_1, _), (r0_1, r1_1, r2_1, _))) => (if Within6.pre r9_1 r1_1 = Bool.true then (if Within6.pre r9_1 r2_1 = Bool.true then (if greatL.pre r0_1 = Bool.true then (if Decidable.decide ((Within6.fn r9_1 r2_1).1 ≤ IntKind.wrap .i64 ((greatL.fn r0_1).1 * (Within6.fn r9_1 r2_1).2.1)) = Bool.true then some (Decidable.decide (IntKind.wrap .i64 ((Within6.fn r9_1 r2_1).1 * (Within6.fn r9_1 r1_1).2.1) ≤ IntKind.wrap .i64 (IntKind.wrap .i64 ((2 : Int) * (Within6.fn r9_1 r1_1).1) * (Within6.fn r9_1 r2_1).2.1)), ())
 else some (Bool.false, ()))
 else none)
 else none)
 else none)
  | none => none)
 else none)
 else none)
 else none)
 else none)
 else none))
 else none)
 else none))
 else some (Bool.false, ()))
 else none)
 else none)
noncomputable def run (d : Ds (List.map PM.ty ps)) : Option (Ds (muts ps ++ List.map PM.ty rs)) := match d with
  | (n0, l1, set2, _) => run' n0 l1 set2
theorem run_is : ∀ d, runF env 107 code [6] ps rs d = run d := fun d => by kernel_rfl
theorem loops : LoopsOk env code := loopsOk_of (l := [[true, true, true, true, true, true, true, true, true, false, true, false, false]]) (by kernel_rfl) (fun p hp => by
  simp only [List.mem_cons, List.not_mem_nil, or_false] at hp
  rcases hp with rfl
  · exact loopOk_lp (L := L12) (x := sub [true, true, true, true, true, true, true, true, true, false, true, false, false] code) (by kernel_rfl) (by simp [L12]) round12 ends12
  )
noncomputable def pre (n0 : Int) (l1 : (List (Int × Int))) (set2 : (List Bool)) : Bool := (run' n0 l1 set2).isSome
noncomputable def fn (n0 : Int) (l1 : (List (Int × Int))) (set2 : (List Bool)) : D := match run' n0 l1 set2 with
  | some x => x
  | none => default
noncomputable def sig : Sig := ⟨ps, rs, fun d => match d with
  | (n0, l1, set2, _) => pre n0 l1 set2, fun d => match d with
  | (n0, l1, set2, _) => fn n0 l1 set2, false⟩
theorem run_fn (n0 : Int) (l1 : (List (Int × Int))) (set2 : (List Bool)) (h : pre n0 l1 set2 = true) : run' n0 l1 set2 = some (fn n0 l1 set2) := by
  unfold pre at h
  unfold fn
  cases e : run' n0 l1 set2 with
  | some x => rfl
  | none => rw [e] at h; cases h
theorem is_fn (n0 : Int) (l1 : (List (Int × Int))) (set2 : (List Bool)) {x : D} (h : run' n0 l1 set2 = some x) : pre n0 l1 set2 = true ∧ fn n0 l1 set2 = x := by
  unfold pre fn
  rw [h]
  exact ⟨rfl, rfl⟩
theorem sound {ρ : Obs} (hE : EnvOk Go.Proofs.Try.prog ρ env) : Sound Go.Proofs.Try.prog ρ 26 sig := sound_of (fn := Go.Proofs.Try.f26) (c := code) (res := [6]) hE (by kernel_rfl) (by kernel_rfl) (by kernel_rfl) (by kernel_rfl) (by kernel_rfl) loops rfl (show 3 ≤ 107 by decide) (fun d hd => (run_is d).trans (by
  obtain ⟨n0, l1, set2, _⟩ := d
  exact run_fn n0 l1 set2 hd))
theorem enters : Enters Go.Proofs.Try.prog 26 := enters_of (fn := Go.Proofs.Try.f26) (by kernel_rfl) (by kernel_rfl) (by kernel_rfl)
theorem ok {ρ : Obs} (h : ∀ p ∈ ([(80, first6.sig), (81, made6.sig), (82, Cores.sig), (93, N.sig), (95, DstP.sig), (96, Within6.sig), (97, greatL.sig)] : List (FuncId × Sig)), Enters Go.Proofs.Try.prog p.1 ∧ Sound Go.Proofs.Try.prog ρ p.1 p.2) : Enters Go.Proofs.Try.prog 26 ∧ Sound Go.Proofs.Try.prog ρ 26 sig := ⟨enters, sound (envOk_of tab6Ok h)⟩
theorem okR : Enters Go.Proofs.Try.prog 26 ∧ Sound Go.Proofs.Try.prog rho 26 sig := ok (fun p hp => by
  simp only [List.mem_cons, List.not_mem_nil, or_false] at hp
  rcases hp with rfl | rfl | rfl | rfl | rfl | rfl | rfl
  · exact first6.okR
  · exact made6.okR
  · exact Cores.okR
  · exact N.okR
  · exact DstP.okR
  · exact Within6.okR
  · exact greatL.okR)
end PeelHalf
end Go.Proofs.Ythbojpaghbbnnaa.Z
namespace Go.Proofs.Ythbojpaghbbnnaa.Z
open Go Go.RowKit
set_option linter.unusedVariables false
set_option linter.unusedSimpArgs false
abbrev G6 : Gr := Gr.ofPairs 6 l6
theorem G6_ok : G6.Ok := ofPairs_ok (by decide) (fun p hp => List.all_eq_true.1 (show l6.all (fun p => okP 6 p) = true by kernel_rfl) p hp)
theorem g0 : nbsOf G6 0 = [1, 2] := by kernel_rfl
theorem g1 : nbsOf G6 1 = [0, 2] := by kernel_rfl
theorem g2 : nbsOf G6 2 = [0, 1, 3] := by kernel_rfl
theorem g3 : nbsOf G6 3 = [2, 4] := by kernel_rfl
theorem g4 : nbsOf G6 4 = [3] := by kernel_rfl
theorem g5 : nbsOf G6 5 = [] := by kernel_rfl
theorem six {P : Nat → Prop} (h0 : P 0) (h1 : P 1) (h2 : P 2) (h3 : P 3) (h4 : P 4) (h5 : P 5) (v : Nat) (hv : v < 6) : P v := by
  obtain rfl | rfl | rfl | rfl | rfl | rfl : v = 0 ∨ v = 1 ∨ v = 2 ∨ v = 3 ∨ v = 4 ∨ v = 5 := by omega
  · exact h0
  · exact h1
  · exact h2
  · exact h3
  · exact h4
  · exact h5
theorem dense_of {m : Nat} {k : Int} (hm : m ≤ 6) (h : ∀ u, u < m → k ≤ Hx.inSet (fun x => decide (x < m)) (nbsOf G6 u)) : Hx.Dense 6 (nbsOf G6) (fun x => decide (x < m)) k := fun u hu => by
  have : u < m := by simpa using hu
  exact ⟨by omega, h u this⟩
theorem in3 : Hx.Dense 6 (nbsOf G6) (fun x => decide (x < 3)) 2 := dense_of (by decide) (fun u hu => by
  obtain rfl | rfl | rfl : u = 0 ∨ u = 1 ∨ u = 2 := by omega
  · rw [g0]; decide
  · rw [g1]; decide
  · rw [g2]; decide)
theorem in5 : Hx.Dense 6 (nbsOf G6) (fun x => decide (x < 5)) 1 := dense_of (by decide) (fun u hu => by
  obtain rfl | rfl | rfl | rfl | rfl : u = 0 ∨ u = 1 ∨ u = 2 ∨ u = 3 ∨ u = 4 := by omega
  · rw [g0]; decide
  · rw [g1]; decide
  · rw [g2]; decide
  · rw [g3]; decide
  · rw [g4]; decide)
theorem not_deg {S : Nat → Bool} {k : Int} (h : Hx.Dense 6 (nbsOf G6) S k) {u : Nat} (hu : ((nbsOf G6 u).length : Int) < k) : S u = false := by
  cases hs : S u with
  | false => rfl
  | true =>
    have h1 := (h u hs).2
    have h2 := Hx.inSet_le S (nbsOf G6 u)
    omega
theorem cores6 : coresOf G6 = [2, 2, 2, 1, 1, 0] := coresOf_is {
  len := rfl
  nonneg := six (P := fun v => (0 : Int) ≤ List.getD [2, 2, 2, 1, 1, 0] v 0) (by decide) (by decide) (by decide) (by decide) (by decide) (by decide)
  isin := six (P := fun v => Hx.InCore 6 (nbsOf G6) (List.getD [2, 2, 2, 1, 1, 0] v 0) v) ⟨_, rfl, in3⟩ ⟨_, rfl, in3⟩ ⟨_, rfl, in3⟩ ⟨_, rfl, in5⟩ ⟨_, rfl, in5⟩ (Hx.inCore_zero (by decide))
  most := six (P := fun v => ¬ Hx.InCore 6 (nbsOf G6) (List.getD [2, 2, 2, 1, 1, 0] v 0 + 1) v)
    (fun ⟨S, hS, hD⟩ => by rw [not_deg (u := 0) hD (by rw [g0]; decide)] at hS; cases hS)
    (fun ⟨S, hS, hD⟩ => by rw [not_deg (u := 1) hD (by rw [g1]; decide)] at hS; cases hS)
    (fun ⟨S, hS, hD⟩ => by
      have s0 := not_deg (u := 0) hD (by rw [g0]; decide)
      have h := (hD 2 hS).2
      rw [g2] at h
      have e : Hx.inSet S [0, 1, 3] = Hx.inSet S [1, 3] := by
        unfold Hx.inSet
        rw [List.countP_cons, if_neg (by rw [show S (Int.toNat 0) = S 0 from rfl, s0]; simp)]
        rfl
      rw [e] at h
      have h2 := Hx.inSet_le S [1, 3]
      have : (3 : Int) ≤ 2 := Int.le_trans h h2
      omega)
    (fun ⟨S, hS, hD⟩ => by
      have s4 := not_deg (u := 4) hD (by rw [g4]; decide)
      have h := (hD 3 hS).2
      rw [g3] at h
      have e : Hx.inSet S [2, 4] = Hx.inSet S [2] := by
        unfold Hx.inSet
        rw [List.countP_cons, List.countP_cons, List.countP_cons, if_neg (c := S (Int.toNat 4) = true) (by rw [show S (Int.toNat 4) = S 4 from rfl, s4]; simp), Nat.add_zero]
      rw [e] at h
      have h2 := Hx.inSet_le S [2]
      have : (2 : Int) ≤ 1 := Int.le_trans h h2
      omega)
    (fun ⟨S, hS, hD⟩ => by rw [not_deg (u := 4) hD (by rw [g4]; decide)] at hS; cases hS)
    (fun ⟨S, hS, hD⟩ => by rw [not_deg (u := 5) hD (by rw [g5]; decide)] at hS; cases hS) }
theorem p1 : passTo G6 0 (List.replicate G6.n false, []) G6.n = ([false, false, false, false, false, true], [5]) := by kernel_rfl
theorem p2 : passTo G6 0 ([false, false, false, false, false, true], [5]) G6.n = ([false, false, false, false, false, true], [5]) := by kernel_rfl
theorem p3 : leastTo G6.n (leftsOf G6 [false, false, false, false, false, true]) [false, false, false, false, false, true] G6.n = 1 := by kernel_rfl
theorem p4 : passTo G6 1 ([false, false, false, false, false, true], [5]) G6.n = ([false, false, false, false, true, true], [5, 4]) := by kernel_rfl
theorem p5 : passTo G6 1 ([false, false, false, false, true, true], [5, 4]) G6.n = ([false, false, false, true, true, true], [5, 4, 3]) := by kernel_rfl
theorem p6 : passTo G6 1 ([false, false, false, true, true, true], [5, 4, 3]) G6.n = ([false, false, false, true, true, true], [5, 4, 3]) := by kernel_rfl
theorem p7 : leastTo G6.n (leftsOf G6 [false, false, false, true, true, true]) [false, false, false, true, true, true] G6.n = 2 := by kernel_rfl
theorem p8 : passTo G6 2 ([false, false, false, true, true, true], [5, 4, 3]) G6.n = ([true, true, true, true, true, true], [5, 4, 3, 0, 1, 2]) := by kernel_rfl
theorem order6 : orderOf G6 = [5, 4, 3, 0, 1, 2] := orderOf_is (by
  refine .took (by decide) (by rw [p1]; decide) ?_
  rw [p1]
  refine .none (by decide) (by rw [p2]) ?_
  rw [p2, p3]
  refine .took (by decide) (by rw [p4]; decide) ?_
  rw [p4]
  refine .took (by decide) (by rw [p5]; decide) ?_
  rw [p5]
  refine .none (by decide) (by rw [p6]) ?_
  rw [p6, p7]
  refine .took (by decide) (by rw [p8]; decide) ?_
  rw [p8]
  exact .done (by decide))
theorem onion6 : onionOf G6 = [4, 4, 4, 3, 2, 1] := by kernel_rfl
theorem tri6 : triOf G6 = 1 := by kernel_rfl
theorem dst6 : thickOf G6 = (2, 4607182418800017408) := by
  unfold thickOf densAt
  rw [cores6]
  kernel_rfl
theorem one_is : (Ieee.Format.order (Go.FloatKind.format Go.FloatKind.f64) 4607182418800017408 4607182418800017408 == Option.some Ordering.eq) = true := by kernel_rfl
theorem first6.is : first6.pre = true ∧ first6.fn = (true, ()) := by
  refine first6.is_fn ?_
  have hM : Make.fn (6 : Int) l6 = (some G6, 0, ()) := by
    unfold Make.fn
    rw [if_pos (by kernel_rfl), if_pos (by kernel_rfl)]
    rfl
  have hn : G6.n ≤ 4096 := by decide
  have hpC : Cores.pre (some G6) = true := show (true && decide (G6.n ≤ 4096)) = true by rw [decide_eq_true hn]; rfl
  have e1 : Cores.fn (some G6) = ([2, 2, 2, 1, 1, 0], ()) := by rw [← cores6]; rfl
  have o := OrderP.is G6_ok hn
  rw [order6] at o
  have n := OnionP.is G6_ok hn
  rw [onion6] at n
  have d := DstP.is G6_ok hn
  rw [dst6] at d
  have t := TriP.is G6_ok hn
  rw [tri6] at t
  unfold first6.run'
  rw [if_pos chap6.is.1, chap6.is.2]
  simp only [Make.pre, hM, (num6.is _).1, (num6.is _).2, bne_self_eq_false, Option.isNone_some, hpC, e1, o.1, o.2, n.1, n.2, d.1, d.2, t.1, t.2, SameIntsH.pre, SameIntsH.fn, eq_self, decide_true, beq_self_eq_true, one_is, if_true, if_false, Bool.false_eq_true]
  rfl
end Go.Proofs.Ythbojpaghbbnnaa.Z
namespace Go.Proofs.Ythbojpaghbbnnaa.Z
open Go Go.RowKit
set_option linter.unusedVariables false
set_option linter.unusedSimpArgs false
theorem bset_lt {r : List Bool} {u : Nat} (h : bset r u = true) : u < r.length := by
  rcases Nat.lt_or_ge u r.length with q | q
  · exact q
  · have : bset r u = false := by show r.getD u false = false; rw [List.getD_eq_getElem?_getD, List.getElem?_eq_none (by omega)]; rfl
    rw [this] at h; cases h
theorem n_fn (G : Gr) : N.pre (some G) = true ∧ N.fn (some G) = ((G.n : Int), ()) := ⟨rfl, rfl⟩
theorem cores_fn {G : Gr} (hn : G.n ≤ 4096) : Cores.pre (some G) = true ∧ Cores.fn (some G) = (coresOf G, ()) := ⟨show (true && decide (G.n ≤ 4096)) = true by rw [decide_eq_true hn]; rfl, rfl⟩
theorem greatL.is {l : List Int} (hl : l.length ≤ 1099511627776) : greatL.pre l = true ∧ greatL.fn l = (maxTo 0 l, ()) := by
  have key := greatL.F3_inv (l0 := l) (fun n i => ∃ j : Nat, i = (j : Int) ∧ j ≤ l.length ∧ n = maxTo 0 (l.take j)) (fun _ i => l.length - i.toNat)
    (fun z => z = ((maxTo 0 l, ()), ())) (fun n i hI => by
      obtain ⟨j, rfl, hj, rfl⟩ := hI
      unfold greatL.R3
      refine led_dif (fun q1 => ?_) (fun q1 => led_x ?_)
      · have hjl : j < l.length := by omega
        have hw : IntKind.wrap .i64 ((j : Int) + 1) = (j : Int) + 1 := wr (by omega) (by omega)
        have tk := take_snoc 0 l j hjl
        have a1 : (0 : Int) ≤ (j : Int) := by omega
        simp only [Int.toNat_natCast, hw, a1, q1, if_true]
        exact led_k ⟨_, _, rfl, ⟨j + 1, by omega, by omega, by rw [tk, maxTo_snoc]⟩, by omega⟩
      · rw [List.take_of_length_le (by omega)]) 0 0 ⟨0, rfl, by omega, rfl⟩
  obtain ⟨z, hz, rfl⟩ := key
  refine greatL.is_fn _ ?_
  unfold greatL.run'
  rw [hz]
end Go.Proofs.Ythbojpaghbbnnaa.Z
namespace Go.Proofs.Ythbojpaghbbnnaa.Z
open Go Go.RowKit
set_option linter.unusedVariables false
set_option linter.unusedSimpArgs false
theorem inSet_up (G : Gr) (S : Nat → Bool) (x : Nat) : Hx.inSet S (nbsOf G x) = ((List.range G.n).countP (fun y => S y && G.adj x y) : Int) := by
  unfold Hx.inSet nbsOf up Gr.nb
  rw [List.countP_map, List.countP_filter]
  rfl
theorem count_one {z : Nat} : ∀ {l : List Nat}, l.Nodup → l.countP (fun y => decide (y = z)) ≤ 1
  | [], _ => by simp
  | x :: l, h => by
    obtain ⟨h1, h2⟩ := List.nodup_cons.1 h
    have ih := count_one (z := z) h2
    rw [List.countP_cons]
    by_cases e : x = z
    · have : l.countP (fun y => decide (y = z)) = 0 := by
        rw [List.countP_eq_zero]
        intro y hy
        rw [decide_eq_true_eq]
        rintro rfl
        exact h1 (e ▸ hy)
      rw [this]
      split <;> omega
    · rw [if_neg (by simpa using e)]
      omega
theorem count_most {p q : Nat → Bool} {z : Nat} : ∀ {l : List Nat}, (∀ y ∈ l, p y = true → q y = true ∨ y = z) → l.countP p ≤ l.countP q + l.countP (fun y => decide (y = z))
  | [], _ => by simp
  | x :: l, h => by
    have ih := count_most (p := p) (q := q) (z := z) (l := l) (fun y hy => h y (List.mem_cons_of_mem _ hy))
    have hx := h x (List.mem_cons_self ..)
    rw [List.countP_cons, List.countP_cons, List.countP_cons]
    by_cases hp : p x = true
    · rw [if_pos hp]
      rcases hx hp with e | e
      · rw [if_pos e]
        split <;> omega
      · rw [if_pos (c := decide (x = z) = true) (by simpa using e)]
        split <;> omega
    · rw [if_neg hp]
      split <;> split <;> omega
/-- H has at most one edge more. -/
structure OneMore (G H : Gr) : Prop where
  same : H.n = G.n
  sub : ∀ x y, G.adj x y = true → H.adj x y = true
  more : ∀ x, ∃ z, ∀ y, H.adj x y = true → G.adj x y = true ∨ y = z
theorem OneMore.ge {G H : Gr} (h : OneMore G H) (S : Nat → Bool) (x : Nat) : Hx.inSet S (nbsOf G x) ≤ Hx.inSet S (nbsOf H x) := by
  rw [inSet_up, inSet_up, h.same]
  have : (List.range G.n).countP (fun y => S y && G.adj x y) ≤ (List.range G.n).countP (fun y => S y && H.adj x y) := List.countP_mono_left (fun y _ hy => by
    rw [Bool.and_eq_true] at hy ⊢
    exact ⟨hy.1, h.sub x y hy.2⟩)
  omega
theorem OneMore.le {G H : Gr} (h : OneMore G H) (S : Nat → Bool) (x : Nat) : Hx.inSet S (nbsOf H x) ≤ Hx.inSet S (nbsOf G x) + 1 := by
  rw [inSet_up, inSet_up, h.same]
  obtain ⟨z, hz⟩ := h.more x
  have h1 := count_most (p := fun y => S y && H.adj x y) (q := fun y => S y && G.adj x y) (z := z) (l := List.range G.n) (fun y _ hy => by
    rw [Bool.and_eq_true] at hy
    exact (hz y hy.2).imp (fun q => by rw [Bool.and_eq_true]; exact ⟨hy.1, q⟩) id)
  have h2 := count_one (z := z) (l := List.range G.n) List.nodup_range
  omega
theorem OneMore.cores {G H : Gr} (h : OneMore G H) {a b : List Int} (ha : Hx.IsCores G.n (nbsOf G) a) (hb : Hx.IsCores H.n (nbsOf H) b) {v : Nat} (hv : v < G.n) : a.getD v 0 ≤ b.getD v 0 ∧ b.getD v 0 ≤ a.getD v 0 + 1 := by
  refine ⟨hb.le ?_, ?_⟩
  · obtain ⟨S, h1, h2⟩ := ha.isin v hv
    exact ⟨S, h1, fun u hu => ⟨by rw [h.same]; exact (h2 u hu).1, Int.le_trans (h2 u hu).2 (h.ge S u)⟩⟩
  · have : b.getD v 0 - 1 ≤ a.getD v 0 := ha.le (by
      obtain ⟨S, h1, h2⟩ := hb.isin v (by rw [h.same]; exact hv)
      refine ⟨S, h1, fun u hu => ⟨by rw [← h.same]; exact (h2 u hu).1, ?_⟩⟩
      have h3 := (h2 u hu).2
      have h4 := h.le S u
      omega)
    omega
end Go.Proofs.Ythbojpaghbbnnaa.Z
namespace Go.Proofs.Ythbojpaghbbnnaa.Z
open Go Go.RowKit
set_option linter.unusedVariables false
set_option linter.unusedSimpArgs false
/-- The float of a / 256. -/
def bits8 (a : Nat) : Nat := (a.log2 + 1014) * 4503599627370496 + a * 2 ^ (52 - a.log2)
theorem bits8_lt {a : Nat} (h1 : 1 < a) (h2 : a < 9007199254740992) : bits8 (a - 1) < bits8 a := by
  unfold bits8
  have s1 := sig_is (n := a) (by omega) h2
  have s2 := sig_is (n := a - 1) (by omega) (by omega)
  have hm : (a - 1).log2 ≤ a.log2 := by
    have e1 := Nat.log2_self_le (show a - 1 ≠ 0 by omega)
    have : ¬ a < 2 ^ (a - 1).log2 := by omega
    rcases Nat.lt_or_ge a.log2 (a - 1).log2 with q | q
    · exact absurd ((Nat.log2_lt (by omega)).1 q) this
    · exact q
  rcases Nat.lt_or_ge (a - 1).log2 a.log2 with q | q
  · omega
  · have e : (a - 1).log2 = a.log2 := by omega
    rw [e] at s2 ⊢
    have hp : 0 < 2 ^ (52 - a.log2) := Nat.pow_pos (by decide)
    have : (a - 1) * 2 ^ (52 - a.log2) < a * 2 ^ (52 - a.log2) := Nat.mul_lt_mul_of_pos_right (by omega) hp
    omega
/-- Rounding to whole numbers, to the nearest. -/
theorem cut_is (s : Bool) (M d : Nat) (hd : d ≤ M.log2 + 2) : ∃ b : Nat, Ieee.Toward.even.cut s M d = M / 2 ^ d + b ∧ b ≤ 1 ∧ (M % 2 ^ d = 0 → b = 0) := by
  unfold Ieee.Toward.cut
  rw [Nat.min_eq_left hd, Nat.shiftLeft_eq, Nat.one_mul]
  simp only
  refine ⟨_, rfl, Bool.toNat_le _, fun h => ?_⟩
  rw [h]
  have hp : 0 < 2 ^ d := Nat.pow_pos (by decide)
  have e1 : decide (2 ^ d < 2 * 0) = false := by simp
  have e2 : (2 ^ d == 2 * 0) = false := by rw [beq_eq_false_iff_ne]; omega
  rw [e1, e2]
  rfl
theorem small_le {w k : Nat} (h : w ≤ 2022) (hk : k ≤ 9007199254740992) : w * 4503599627370496 + k ≤ 9218868437227405312 := by omega
theorem step_le {w v k K : Nat} (h : w < v) (hk : k ≤ 9007199254740992) (hK : 4503599627370496 ≤ K) : w * 4503599627370496 + k ≤ v * 4503599627370496 + K := by omega
theorem near_parts {M : Nat} {P : Int} {T : Nat} (hT : 52 ≤ T) (h1 : 2 ^ T ≤ M) (h2 : M < 2 ^ (T + 1)) (hP : -1000 ≤ P + T ∧ P + T ≤ 1000) :
    ∃ kept : Nat, fm.nearest false M P = (P + T + 1022).toNat * 4503599627370496 + kept ∧ (∀ K, K * 2 ^ (T - 52) ≤ M → K ≤ kept) ∧ (∀ K, M ≤ K * 2 ^ (T - 52) → kept ≤ K) := by
  have hpos : 0 < 2 ^ T := Nat.pow_pos (by decide)
  have hL : M.log2 = T := by
    have a1 : ¬ M.log2 < T := fun q => by
      have := (Nat.log2_lt (by omega)).1 q
      omega
    have a2 : M.log2 < T + 1 := (Nat.log2_lt (by omega)).2 h2
    omega
  obtain ⟨b, c1, c2, c3⟩ := cut_is false M (T - 52) (by omega)
  have hg : 0 < 2 ^ (T - 52) := Nat.pow_pos (by decide)
  have dm := Nat.div_add_mod M (2 ^ (T - 52))
  have ml := Nat.mod_lt M hg
  have low : ∀ K, K * 2 ^ (T - 52) ≤ M → K ≤ M / 2 ^ (T - 52) + b := fun K hK => by
    have := (Nat.le_div_iff_mul_le hg).2 hK
    omega
  have upp : ∀ K, M ≤ K * 2 ^ (T - 52) → M / 2 ^ (T - 52) + b ≤ K := fun K hK => by
    by_cases h0 : M % 2 ^ (T - 52) = 0
    · rw [c3 h0, Nat.add_zero]
      have := Nat.div_le_div_right (c := 2 ^ (T - 52)) hK
      rw [Nat.mul_div_cancel _ hg] at this
      exact this
    · have : M / 2 ^ (T - 52) < K := by
        refine Nat.lt_of_mul_lt_mul_right (a := 2 ^ (T - 52)) ?_
        rw [Nat.mul_comm]
        omega
      omega
  have e53 : 2 ^ (T + 1) = 9007199254740992 * 2 ^ (T - 52) := by
    rw [show (9007199254740992 : Nat) = 2 ^ 53 by decide, ← Nat.pow_add, show 53 + (T - 52) = T + 1 by omega]
  have k53 := upp 9007199254740992 (by omega)
  refine ⟨M / 2 ^ (T - 52) + b, ?_, low, upp⟩
  unfold Ieee.Format.nearest
  rw [if_neg (by omega), hL]
  have e1 : max (P + (T : Int) - (fm.fractionBits : Int)) fm.leastPlace = P + (T : Int) - 52 := by
    rw [fm_least, fm_frac]
    omega
  have e2 : (P - (P + (T : Int) - 52)).toNat = 0 := by omega
  have e3 : ((P + (T : Int) - 52) - P).toNat = T - 52 := by omega
  have e4 : ((P + (T : Int) - 52) - fm.leastPlace).toNat = (P + T + 1022).toNat := by rw [fm_least]; omega
  simp only [e1, e2, e3, e4, Nat.shiftLeft_zero, c1]
  obtain ⟨w, hw⟩ : ∃ w : Nat, (P + T + 1022).toNat = w := ⟨_, rfl⟩
  have hw2 : w ≤ 2022 := by omega
  rw [fm_binade, fm_inf, hw]
  unfold Ieee.Format.word
  rw [if_neg (by simp), Nat.min_eq_left (small_le hw2 k53)]
theorem div_nums {x y : Nat} {m n : Nat} {i j : Int} (hx : fm.read x = .number false m i) (hy : fm.read y = .number false n j) (hn : n ≠ 0) :
    Ieee.Format.div fm x y = some (fm.nearest false (2 * ((m <<< (fm.fractionBits + 2 + n.log2 - m.log2)) / n) + ((m <<< (fm.fractionBits + 2 + n.log2 - m.log2)) % n != 0).toNat) (i - j - ((fm.fractionBits + 2 + n.log2 - m.log2 : Nat) : Int) - 1)) := by
  unfold Ieee.Format.div
  rw [hx, hy]
  unfold Ieee.Datum.quotient
  simp only
  rw [if_neg hn]
  rfl
/-- The float of e / c, beside a / 256. -/
theorem quot_parts {e c : Nat} (he : 0 < e) (he2 : e < 65536) (hc : 0 < c) (hc2 : c < 65536) :
    ∃ (T : Nat) (P : Int) (M : Nat), (T = 54 ∨ T = 55) ∧ 2 ^ T ≤ M ∧ M < 2 ^ (T + 1) ∧ P = (e.log2 : Int) - c.log2 - 55 ∧ quot e c = fm.nearest false M P ∧
      ∀ a u : Nat, u + e.log2 + 8 = 54 + c.log2 → (a * c ≤ e * 256 → 2 * (a * 2 ^ u) ≤ M) ∧ (e * 256 ≤ a * c → M ≤ 2 * (a * 2 ^ u)) := by
  have hs1 := sig_is he (show e < 9007199254740992 by omega)
  have hs2 := sig_is hc (show c < 9007199254740992 by omega)
  have le : e.log2 < 16 := (Nat.log2_lt (by omega)).2 (by have : (2 : Nat) ^ 16 = 65536 := by decide
                                                          omega)
  have lc : c.log2 < 16 := (Nat.log2_lt (by omega)).2 (by have : (2 : Nat) ^ 16 = 65536 := by decide
                                                          omega)
  obtain ⟨Le, hLe⟩ : ∃ Le, Le = e.log2 := ⟨_, rfl⟩
  obtain ⟨Lc, hLc⟩ : ∃ Lc, Lc = c.log2 := ⟨_, rfl⟩
  obtain ⟨E, hE⟩ : ∃ E, E = e * 2 ^ (52 - e.log2) := ⟨_, rfl⟩
  obtain ⟨C, hC⟩ : ∃ C, C = c * 2 ^ (52 - c.log2) := ⟨_, rfl⟩
  have hlog : ∀ n, 4503599627370496 ≤ n → n < 9007199254740992 → n.log2 = 52 := fun n h1 h2 => by
    have a1 : ¬ n.log2 < 52 := fun q => by
      have := (Nat.log2_lt (by omega)).1 q
      have : (2 : Nat) ^ 52 = 4503599627370496 := by decide
      omega
    have := log_lt (show 0 < n by omega) h2
    omega
  have hq : quot e c = fm.nearest false (2 * ((E * 2 ^ 54) / C) + ((E * 2 ^ 54) % C != 0).toNat) ((Le : Int) - Lc - 55) := by
    have r1 := read_near he (show e < 9007199254740992 by omega)
    have r2 := read_near hc (show c < 9007199254740992 by omega)
    rw [← hE, ← hLe] at r1
    rw [← hC, ← hLc] at r2
    have hd := div_nums r1 r2 (by omega)
    rw [hlog E (by omega) (by omega), hlog C (by omega) (by omega), show fm.fractionBits + 2 + 52 - 52 = 54 by rw [fm_frac], Nat.shiftLeft_eq] at hd
    have hi : ((Le : Int) - 52) - ((Lc : Int) - 52) - ((54 : Nat) : Int) - 1 = (Le : Int) - Lc - 55 := by omega
    rw [hi] at hd
    unfold quot
    rw [hd, Option.getD_some]
  have hCp : 0 < C := by omega
  have e54 : (2 : Nat) ^ 54 = 18014398509481984 := by decide
  have e55 : (2 : Nat) ^ 55 = 36028797018963968 := by decide
  have e56 : (2 : Nat) ^ 56 = 72057594037927936 := by decide
  have q1 : 9007199254740992 ≤ (E * 2 ^ 54) / C := by
    rw [Nat.le_div_iff_mul_le hCp, e54]
    omega
  have q2 : (E * 2 ^ 54) / C < 36028797018963968 := by
    rw [Nat.div_lt_iff_lt_mul hCp, e54]
    omega
  have qb := Bool.toNat_le ((E * 2 ^ 54) % C != 0)
  obtain ⟨M, hM⟩ : ∃ M, M = 2 * ((E * 2 ^ 54) / C) + ((E * 2 ^ 54) % C != 0).toNat := ⟨_, rfl⟩
  rw [← hM] at hq
  have cmp : ∀ a u : Nat, u + Le + 8 = 54 + Lc → (a * c ≤ e * 256 → 2 * (a * 2 ^ u) ≤ M) ∧ (e * 256 ≤ a * c → M ≤ 2 * (a * 2 ^ u)) := fun a u hu => by
    have eE : E * 2 ^ 54 = (e * 256) * 2 ^ (98 - Le) := by
      rw [hE, ← hLe, Nat.mul_assoc, Nat.mul_assoc, ← Nat.pow_add, show (256 : Nat) = 2 ^ 8 by decide, ← Nat.pow_add]
      congr 2
      omega
    have eC : (a * 2 ^ u) * C = (a * c) * 2 ^ (98 - Le) := by
      rw [hC, ← hLc, Nat.mul_mul_mul_comm, ← Nat.pow_add]
      congr 2
      omega
    refine ⟨fun h => ?_, fun h => ?_⟩
    · have : (a * 2 ^ u) * C ≤ E * 2 ^ 54 := by rw [eE, eC]; exact Nat.mul_le_mul_right _ h
      have := (Nat.le_div_iff_mul_le hCp).2 this
      omega
    · have h3 : E * 2 ^ 54 ≤ (a * 2 ^ u) * C := by rw [eE, eC]; exact Nat.mul_le_mul_right _ h
      have dm := Nat.div_add_mod (E * 2 ^ 54) C
      by_cases h0 : (E * 2 ^ 54) % C = 0
      · have hb : ((E * 2 ^ 54) % C != 0) = false := by rw [h0]; rfl
        have hb' : ((E * 2 ^ 54) % C != 0).toNat = 0 := by rw [hb]; rfl
        have := Nat.div_le_div_right (c := C) h3
        rw [Nat.mul_div_cancel _ hCp] at this
        omega
      · have : (E * 2 ^ 54) / C < a * 2 ^ u := by
          refine Nat.lt_of_mul_lt_mul_right (a := C) ?_
          rw [Nat.mul_comm]
          omega
        omega
  rw [hLe, hLc] at cmp hq
  by_cases ht : M < 2 ^ 55
  · exact ⟨54, _, M, .inl rfl, by rw [e54]; omega, ht, rfl, hq, cmp⟩
  · exact ⟨55, _, M, .inr rfl, by omega, by rw [show 55 + 1 = 56 by rfl, e56]; omega, rfl, hq, cmp⟩
theorem quot_cmp {e c a : Nat} (he : 0 < e) (he2 : e < 65536) (hc : 0 < c) (hc2 : c < 65536) (ha : 0 < a) (ha2 : a < 16777216) :
    (a * c ≤ e * 256 → bits8 a ≤ quot e c) ∧ (e * 256 ≤ a * c → quot e c ≤ bits8 a) := by
  obtain ⟨T, P, M, hT, h1, h2, hP, hq, cmp⟩ := quot_parts he he2 hc hc2
  have le : e.log2 < 16 := (Nat.log2_lt (by omega)).2 (by have : (2 : Nat) ^ 16 = 65536 := by decide
                                                          omega)
  have lc : c.log2 < 16 := (Nat.log2_lt (by omega)).2 (by have : (2 : Nat) ^ 16 = 65536 := by decide
                                                          omega)
  have la : a.log2 < 24 := (Nat.log2_lt (by omega)).2 (by have : (2 : Nat) ^ 24 = 16777216 := by decide
                                                          omega)
  have hs := sig_is ha (show a < 9007199254740992 by omega)
  obtain ⟨La, hLa⟩ : ∃ La, La = a.log2 := ⟨_, rfl⟩
  obtain ⟨K, hK⟩ : ∃ K, K = a * 2 ^ (52 - a.log2) := ⟨_, rfl⟩
  obtain ⟨u, hu⟩ : ∃ u, u + e.log2 + 8 = 54 + c.log2 := ⟨54 + c.log2 - e.log2 - 8, by omega⟩
  obtain ⟨cm1, cm2⟩ := cmp a u hu
  obtain ⟨kept, k1, k2, k3⟩ := near_parts (M := M) (P := P) (T := T) (by omega) h1 h2 (by omega)
  have p53 : (2 : Nat) ^ 53 = 9007199254740992 := by decide
  have p52 : (2 : Nat) ^ 52 = 4503599627370496 := by decide
  have eT : 2 ^ T = 4503599627370496 * 2 ^ (T - 52) := by rw [← p52, ← Nat.pow_add, show 52 + (T - 52) = T by omega]
  have eT1 : 2 ^ (T + 1) = 9007199254740992 * 2 ^ (T - 52) := by rw [← p53, ← Nat.pow_add, show 53 + (T - 52) = T + 1 by omega]
  have kl := k2 4503599627370496 (by omega)
  have ku := k3 9007199254740992 (by omega)
  rw [hq, k1]
  unfold bits8
  rw [← hK] at hs ⊢
  rw [← hLa] at la hK ⊢
  -- 2 * (a * 2^u) = K * 2^(u + 1 + La - 52), where that is whole
  have eY : (2 * (a * 2 ^ u)) * 2 ^ 52 = K * 2 ^ (u + 1 + La) := by
    have r : K * 2 ^ (u + 1 + La) = a * 2 ^ (u + 1 + 52) := by rw [hK, Nat.mul_assoc, ← Nat.pow_add, show 52 - La + (u + 1 + La) = u + 1 + 52 by omega]
    rw [r, Nat.pow_add 2 (u + 1) 52, show 2 ^ (u + 1) = 2 ^ u * 2 from rfl]
    generalize 2 ^ 52 = Z
    generalize 2 ^ u = U
    ac_rfl
  have hpw : 0 < 2 ^ 52 := by decide
  -- the exponents: P + T + 1022 beside La + 1014
  obtain ⟨w, hw⟩ : ∃ w : Nat, (P + T + 1022).toNat = w := ⟨_, rfl⟩
  have hw2 : (w : Int) = e.log2 - c.log2 - 55 + T + 1022 := by omega
  rw [hw]
  have hwu : w + u = T + 1022 - 9 := by omega
  refine ⟨fun h => ?_, fun h => ?_⟩
  · have hm := cm1 h
    rcases Nat.lt_trichotomy (La + 1014) w with q | q | q
    · exact step_le q (Nat.le_of_lt hs.2) kl
    · have : K * 2 ^ (T - 52) ≤ M := by
        refine Nat.le_trans ?_ hm
        refine Nat.le_of_mul_le_mul_right (?_ : _ * 2 ^ 52 ≤ _ * 2 ^ 52) hpw
        rw [eY, Nat.mul_assoc, ← Nat.pow_add, show T - 52 + 52 = u + 1 + La by omega]
        exact Nat.le_refl _
      rw [q]
      exact Nat.add_le_add_left (k2 K this) _
    · exfalso
      have h5 : 2 ^ (T + 1) * 2 ^ 52 ≤ (2 * (a * 2 ^ u)) * 2 ^ 52 := by
        rw [eY, ← Nat.pow_add]
        refine Nat.le_trans (?_ : _ ≤ 2 ^ 52 * 2 ^ (u + 1 + La)) (Nat.mul_le_mul_right _ (by omega))
        rw [← Nat.pow_add]
        exact Nat.pow_le_pow_right (by decide) (by omega)
      have := Nat.le_of_mul_le_mul_right h5 hpw
      omega
  · have hm := cm2 h
    rcases Nat.lt_trichotomy (La + 1014) w with q | q | q
    · exfalso
      have h5 : (2 * (a * 2 ^ u)) * 2 ^ 52 < 2 ^ T * 2 ^ 52 := by
        rw [eY, ← Nat.pow_add]
        refine Nat.lt_of_lt_of_le (Nat.mul_lt_mul_of_pos_right (show K < 2 ^ 53 by omega) (Nat.pow_pos (by decide))) ?_
        rw [← Nat.pow_add]
        exact Nat.pow_le_pow_right (by decide) (by omega)
      have := Nat.lt_of_mul_lt_mul_right h5
      omega
    · have : M ≤ K * 2 ^ (T - 52) := by
        refine Nat.le_trans hm ?_
        refine Nat.le_of_mul_le_mul_right (?_ : _ * 2 ^ 52 ≤ _ * 2 ^ 52) hpw
        rw [eY, Nat.mul_assoc, ← Nat.pow_add, show T - 52 + 52 = u + 1 + La by omega]
        exact Nat.le_refl _
      rw [q]
      exact Nat.add_le_add_left (k3 K this) _
    · exact step_le q ku hs.1
def valOf (x : Nat) : Nat := if x < 4503599627370496 then x else (4503599627370496 + x % 4503599627370496) * 2 ^ (x / 4503599627370496 - 1)
theorem valOf_lt {x y : Nat} (h : x < y) : valOf x < valOf y := by
  unfold valOf
  have dx := Nat.div_add_mod x 4503599627370496
  have dy := Nat.div_add_mod y 4503599627370496
  have mx := Nat.mod_lt x (show 0 < 4503599627370496 by decide)
  have my := Nat.mod_lt y (show 0 < 4503599627370496 by decide)
  have hy : 0 < 2 ^ (y / 4503599627370496 - 1) := Nat.pow_pos (by decide)
  have hx : 0 < 2 ^ (x / 4503599627370496 - 1) := Nat.pow_pos (by decide)
  by_cases h1 : y < 4503599627370496
  · rw [if_pos h1, if_pos (by omega)]
    exact h
  · rw [if_neg h1]
    have low : 4503599627370496 * 2 ^ (y / 4503599627370496 - 1) ≤ (4503599627370496 + y % 4503599627370496) * 2 ^ (y / 4503599627370496 - 1) := Nat.mul_le_mul_right _ (by omega)
    by_cases h2 : x < 4503599627370496
    · rw [if_pos h2]
      have : 4503599627370496 * 1 ≤ 4503599627370496 * 2 ^ (y / 4503599627370496 - 1) := Nat.mul_le_mul_left _ hy
      omega
    · rw [if_neg h2]
      rcases Nat.lt_or_ge (x / 4503599627370496) (y / 4503599627370496) with q | q
      · refine Nat.lt_of_lt_of_le ?_ low
        have e1 : (4503599627370496 + x % 4503599627370496) * 2 ^ (x / 4503599627370496 - 1) < (4503599627370496 * 2) * 2 ^ (x / 4503599627370496 - 1) := Nat.mul_lt_mul_of_pos_right (by omega) hx
        have e2 : 2 * 2 ^ (x / 4503599627370496 - 1) ≤ 2 ^ (y / 4503599627370496 - 1) := by
          rw [← Nat.pow_succ']
          exact Nat.pow_le_pow_right (by decide) (by omega)
        have e3 : 4503599627370496 * (2 * 2 ^ (x / 4503599627370496 - 1)) ≤ 4503599627370496 * 2 ^ (y / 4503599627370496 - 1) := Nat.mul_le_mul_left _ e2
        rw [Nat.mul_assoc] at e1
        omega
      · have e : x / 4503599627370496 = y / 4503599627370496 := by omega
        rw [e]
        exact Nat.mul_lt_mul_of_pos_right (by omega) hy
theorem valOf_le {x y : Nat} : valOf x ≤ valOf y ↔ x ≤ y := by
  constructor
  · intro h
    rcases Nat.lt_or_ge y x with q | q
    · have := valOf_lt q
      omega
    · exact q
  · intro h
    rcases Nat.lt_or_ge x y with q | q
    · exact Nat.le_of_lt (valOf_lt q)
    · have : x = y := by omega
      rw [this]
      exact Nat.le_refl _
theorem read_val {x : Nat} (h : x < 9218868437227405312) : ∃ (m : Nat) (q : Nat), fm.read x = .number false m ((q : Int) - 1074) ∧ m * 2 ^ q = valOf x := by
  unfold Ieee.Format.read valOf
  have e1 : x / fm.signWeight % 2 = 0 := by rw [fm_sign]; omega
  have e2 : x % fm.signWeight = x := by rw [fm_sign]; omega
  simp only [e1, e2]
  rw [fm_binade, fm_inf, fm_least]
  by_cases h1 : x < 4503599627370496
  · rw [if_pos h1, if_pos h1]
    exact ⟨x, 0, rfl, by simp⟩
  · rw [if_neg h1, if_neg h1, if_pos h]
    refine ⟨_, x / 4503599627370496 - 1, ?_, rfl⟩
    have : (-1074 : Int) + ((x / 4503599627370496 - 1 : Nat) : Int) = ((x / 4503599627370496 - 1 : Nat) : Int) - 1074 := by omega
    rw [this]
    rfl
theorem ordG_iff {x y : Nat} (hx : x < 9218868437227405312) (hy : y < 9218868437227405312) : ordG x y = true ↔ y ≤ x := by
  obtain ⟨m, i, e1, v1⟩ := read_val hx
  obtain ⟨n, j, e2, v2⟩ := read_val hy
  rw [← valOf_le, ← v1, ← v2]
  unfold ordG Ieee.Format.order
  rw [e1, e2]
  unfold Ieee.Datum.order
  simp only
  obtain ⟨b, hb⟩ : ∃ b, b = min i j := ⟨_, rfl⟩
  have hi : (((i : Int) - 1074) - min ((i : Int) - 1074) ((j : Int) - 1074)).toNat = i - b := by omega
  have hj : (((j : Int) - 1074) - min ((i : Int) - 1074) ((j : Int) - 1074)).toNat = j - b := by omega
  rw [hi, hj]
  have ei : m * 2 ^ i = (m * 2 ^ (i - b)) * 2 ^ b := by rw [Nat.mul_assoc, ← Nat.pow_add, show i - b + b = i by omega]
  have ej : n * 2 ^ j = (n * 2 ^ (j - b)) * 2 ^ b := by rw [Nat.mul_assoc, ← Nat.pow_add, show j - b + b = j by omega]
  rw [ei, ej, Nat.mul_le_mul_right_iff (Nat.pow_pos (by decide))]
  have s : ∀ a k : Nat, Ieee.signed false a k = ((a * 2 ^ k : Nat) : Int) := fun a k => by
    unfold Ieee.signed
    rw [if_neg (by simp), Nat.shiftLeft_eq]
  rw [s, s]
  have cm : ∀ p q : Int, ((some (compare p q) == some Ordering.gt) || (some (compare p q) == some Ordering.eq)) = true ↔ q ≤ p := fun p q => by
    show ((some (compareOfLessAndEq p q) == some Ordering.gt) || (some (compareOfLessAndEq p q) == some Ordering.eq)) = true ↔ q ≤ p
    unfold compareOfLessAndEq
    by_cases h1 : p < q
    · rw [if_pos h1]
      constructor
      · intro h; cases h
      · intro h; omega
    · rw [if_neg h1]
      by_cases h2 : p = q
      · rw [if_pos h2]
        constructor
        · intro _; omega
        · intro _; rfl
      · rw [if_neg h2]
        constructor
        · intro _; omega
        · intro _; rfl
  rw [cm]
  omega
theorem quot_small {e c : Nat} (he : 0 < e) (he2 : e < 65536) (hc : 0 < c) (hc2 : c < 65536) : quot e c < 9218868437227405312 := by
  obtain ⟨T, P, M, hT, h1, h2, hP, hq, cmp⟩ := quot_parts he he2 hc hc2
  have le : e.log2 < 16 := (Nat.log2_lt (by omega)).2 (by have : (2 : Nat) ^ 16 = 65536 := by decide
                                                          omega)
  have lc : c.log2 < 16 := (Nat.log2_lt (by omega)).2 (by have : (2 : Nat) ^ 16 = 65536 := by decide
                                                          omega)
  obtain ⟨kept, k1, k2, k3⟩ := near_parts (M := M) (P := P) (T := T) (by omega) h1 h2 (by omega)
  have p53 : (2 : Nat) ^ 53 = 9007199254740992 := by decide
  have eT1 : 2 ^ (T + 1) = 9007199254740992 * 2 ^ (T - 52) := by rw [← p53, ← Nat.pow_add, show 53 + (T - 52) = T + 1 by omega]
  have ku := k3 9007199254740992 (by omega)
  rw [hq, k1]
  omega
theorem quot_zero {c : Nat} (hc : 0 < c) (hc2 : c < 9007199254740992) : quot 0 c = 0 := by
  have hs := sig_is hc hc2
  unfold quot Ieee.Format.div
  rw [read_zero, read_near hc hc2]
  unfold Ieee.Datum.quotient
  simp only
  rw [if_neg (by omega)]
  simp only [Nat.zero_shiftLeft, Nat.zero_div, Nat.zero_mod]
  unfold Ieee.Format.write
  show (some (Ieee.Format.nearest fm (false ^^ false) (2 * 0 + (0 != 0).toNat) _)).getD 0 = 0
  unfold Ieee.Format.nearest
  rw [if_pos (by decide)]
  rfl
end Go.Proofs.Ythbojpaghbbnnaa.Z
namespace Go.Proofs.Ythbojpaghbbnnaa.Z
open Go Go.RowKit
set_option linter.unusedVariables false
set_option linter.unusedSimpArgs false
def insUp (G : Gr) (keep : List Bool) : Nat → Nat
  | 0 => 0
  | j + 1 => insUp G keep j + if keep.getD j false = true then (G.nb j).countP (fun u => decide (j < u) && keep.getD u false) else 0
theorem pairs1_count (G : Gr) (keep : List Bool) : ∀ j, ((List.range j).flatMap (fun u => ((G.nb u).filter (fun v => decide (u < v))).map (fun v => (u, v)))).countP (keepP keep) = insUp G keep j
  | 0 => rfl
  | j + 1 => by
    rw [List.range_succ, List.flatMap_append, List.flatMap_singleton, List.countP_append, pairs1_count G keep j, List.countP_map, List.countP_filter, insUp]
    congr 1
    by_cases hk : keep.getD j false = true
    · rw [if_pos hk]
      refine List.countP_congr (fun u _ => ?_)
      simp only [Function.comp, keepP, hk, Bool.true_and]
      rw [Bool.and_comm]
    · rw [if_neg hk, List.countP_eq_zero]
      intro u _
      have : keep.getD j false = false := by cases h : keep.getD j false with
        | true => exact absurd h hk
        | false => rfl
      simp only [Function.comp, keepP, this, Bool.false_and]
      simp
theorem insUp_is (G : Gr) (keep : List Bool) : insUp G keep G.n = insideE G keep := (pairs1_count G keep G.n).symm
theorem inSet_nat (G : Gr) (keep : List Bool) (v : Nat) : Hx.inSet (bset keep) (nbsOf G v) = ((G.nb v).countP (fun u => keep.getD u false) : Int) := by
  unfold Hx.inSet nbsOf up
  rw [List.countP_map]
  rfl
theorem count_split {G : Gr} (hG : G.Ok) (keep : List Bool) (v : Nat) : (G.nb v).countP (fun u => decide (u < v) && keep.getD u false) + (G.nb v).countP (fun u => decide (v < u) && keep.getD u false) = (G.nb v).countP (fun u => keep.getD u false) := by
  have h : ∀ l : List Nat, (∀ u ∈ l, u ≠ v) → l.countP (fun u => decide (u < v) && keep.getD u false) + l.countP (fun u => decide (v < u) && keep.getD u false) = l.countP (fun u => keep.getD u false) := fun l => by
    induction l with
    | nil => intro _; rfl
    | cons x l ih =>
      intro hx
      have ih := ih (fun u hu => hx u (List.mem_cons_of_mem _ hu))
      have hne := hx x (List.mem_cons_self ..)
      rw [List.countP_cons, List.countP_cons, List.countP_cons]
      rcases Nat.lt_or_ge x v with q | q
      · rw [decide_eq_true q, decide_eq_false (show ¬ v < x by omega)]
        simp only [Bool.true_and, Bool.false_and, Bool.false_eq_true, if_false]
        omega
      · rw [decide_eq_false (show ¬ x < v by omega), decide_eq_true (show v < x by omega)]
        simp only [Bool.true_and, Bool.false_and, Bool.false_eq_true, if_false]
        omega
  refine h _ (fun u hu e => ?_)
  have := (Gr.mem_nb hG).1 hu
  rw [e, hG.irr] at this
  cases this
def insDeg (G : Gr) (keep : List Bool) : Nat → Nat
  | 0 => 0
  | j + 1 => insDeg G keep j + if keep.getD j false = true then (G.nb j).countP (fun u => keep.getD u false) else 0
theorem insDeg_is {G : Gr} (hG : G.Ok) (keep : List Bool) : insDeg G keep G.n = 2 * insideE G keep := by
  have h : ∀ j, insDeg G keep j = insTo G keep j + insUp G keep j := fun j => by
    induction j with
    | zero => rfl
    | succ j ih =>
      rw [insDeg, insTo, insUp, ih]
      have := count_split hG keep j
      split <;> omega
  rw [h, insTo_is hG, insUp_is]
  omega
/-- If each of a set has k in it, twice the edges are k times the set. -/
theorem insDeg_ge {G : Gr} {keep : List Bool} (hl : keep.length = G.n) {k : Nat} (h : ∀ v, v < G.n → keep.getD v false = true → k ≤ (G.nb v).countP (fun u => keep.getD u false)) : k * keep.count true ≤ insDeg G keep G.n := by
  have key : ∀ j, j ≤ G.n → k * (keep.take j).count true ≤ insDeg G keep j := fun j => by
    induction j with
    | zero => intro _; simp
    | succ j ih =>
      intro hj
      have ih := ih (by omega)
      rw [take_snoc false keep j (by omega), List.count_append, Nat.mul_add, insDeg]
      cases hb : keep.getD j false with
      | true =>
        have := h j (by omega) hb
        rw [if_pos rfl, show [true].count true = 1 from rfl]
        omega
      | false =>
        rw [if_neg (by simp), show [false].count true = 0 from rfl]
        omega
  have := key G.n (Nat.le_refl _)
  rwa [List.take_of_length_le (by omega)] at this
def firstP (keep : List Bool) (v : Nat) (p : Nat × Nat) : Bool := keepP keep p && decide (p.1 = v)
def secondP (keep : List Bool) (v : Nat) (p : Nat × Nat) : Bool := keepP keep p && decide (p.2 = v)
theorem first_count (G : Gr) {keep : List Bool} {v : Nat} (hk : keep.getD v false = true) : ∀ j, ((List.range j).flatMap (fun u => ((G.nb u).filter (fun v => decide (u < v))).map (fun v => (u, v)))).countP (firstP keep v) = if v < j then (G.nb v).countP (fun u => decide (v < u) && keep.getD u false) else 0
  | 0 => rfl
  | j + 1 => by
    rw [List.range_succ, List.flatMap_append, List.flatMap_singleton, List.countP_append, first_count G hk j, List.countP_map, List.countP_filter]
    by_cases e : j = v
    · subst e
      rw [if_neg (by omega), if_pos (by omega), Nat.zero_add]
      refine List.countP_congr (fun u _ => ?_)
      simp only [Function.comp, firstP, keepP, hk, Bool.true_and, decide_true, Bool.and_true]
      rw [Bool.and_comm]
    · have : (G.nb j).countP (fun a => (firstP keep v ∘ fun v => (j, v)) a && decide (j < a)) = 0 := by
        rw [List.countP_eq_zero]
        intro u _
        simp only [Function.comp, firstP, decide_eq_false e, Bool.and_false, Bool.false_and]
        simp
      rw [this, Nat.add_zero]
      by_cases h : v < j
      · rw [if_pos h, if_pos (by omega)]
      · rw [if_neg h, if_neg (by omega)]
theorem second_count (G : Gr) {keep : List Bool} {v : Nat} (hk : keep.getD v false = true) : ∀ j, (pairs2 G j).countP (secondP keep v) = if v < j then (G.nb v).countP (fun u => decide (u < v) && keep.getD u false) else 0
  | 0 => rfl
  | j + 1 => by
    have e : pairs2 G (j + 1) = pairs2 G j ++ ((G.nb j).filter (fun u => decide (u < j))).map (fun u => (u, j)) := by
      unfold pairs2
      rw [List.range_succ, List.flatMap_append, List.flatMap_singleton]
    rw [e, List.countP_append, second_count G hk j, List.countP_map, List.countP_filter]
    by_cases e : j = v
    · subst e
      rw [if_neg (by omega), if_pos (by omega), Nat.zero_add]
      refine List.countP_congr (fun u _ => ?_)
      simp only [Function.comp, secondP, keepP, hk, Bool.true_and, decide_true, Bool.and_true]
      rw [Bool.and_comm]
    · have : (G.nb j).countP (fun a => (secondP keep v ∘ fun u => (u, j)) a && decide (a < j)) = 0 := by
        rw [List.countP_eq_zero]
        intro u _
        simp only [Function.comp, secondP, decide_eq_false e, Bool.and_false, Bool.false_and]
        simp
      rw [this, Nat.add_zero]
      by_cases h : v < j
      · rw [if_pos h, if_pos (by omega)]
      · rw [if_neg h, if_neg (by omega)]
theorem drop_count {keep : List Bool} {v : Nat} (hv : v < keep.length) : ∀ l : List (Nat × Nat), (∀ p ∈ l, p.1 < p.2) → l.countP (keepP keep) = l.countP (keepP (keep.set v false)) + (l.countP (firstP keep v) + l.countP (secondP keep v))
  | [], _ => rfl
  | p :: l, h => by
    have ih := drop_count hv l (fun q hq => h q (List.mem_cons_of_mem _ hq))
    have hp := h p (List.mem_cons_self ..)
    rw [List.countP_cons, List.countP_cons, List.countP_cons, List.countP_cons, ih]
    have g : ∀ u, (keep.set v false).getD u false = if v = u then false else keep.getD u false := fun u => by
      rw [Hx.getD_setG]
      by_cases e : v = u
      · rw [if_pos ⟨e, hv⟩, if_pos e]
      · rw [if_neg (fun q => e q.1), if_neg e]
    have e1 : keepP (keep.set v false) p = (keepP keep p && !decide (p.1 = v) && !decide (p.2 = v)) := by
      unfold keepP
      rw [g, g]
      by_cases q1 : v = p.1
      · rw [if_pos q1, decide_eq_true q1.symm]
        simp
      · rw [if_neg q1, decide_eq_false (fun q => q1 q.symm)]
        by_cases q2 : v = p.2
        · rw [if_pos q2, decide_eq_true q2.symm]
          simp
        · rw [if_neg q2, decide_eq_false (fun q => q2 q.symm)]
          simp
    rw [e1]
    unfold firstP secondP
    cases hk : keepP keep p with
    | false =>
      simp only [Bool.false_and, Bool.false_eq_true, if_false]
      omega
    | true =>
      by_cases q1 : p.1 = v
      · have q2 : ¬ p.2 = v := by omega
        simp only [q1, q2, decide_true, decide_false, Bool.not_true, Bool.not_false, Bool.and_true, Bool.and_false, Bool.true_and, Bool.false_eq_true, if_true, if_false]
        omega
      · by_cases q2 : p.2 = v
        · simp only [q1, q2, decide_true, decide_false, Bool.not_true, Bool.not_false, Bool.and_true, Bool.and_false, Bool.true_and, Bool.false_eq_true, if_true, if_false]
          omega
        · simp only [q1, q2, decide_true, decide_false, Bool.not_true, Bool.not_false, Bool.and_true, Bool.and_false, Bool.true_and, Bool.false_eq_true, if_true, if_false]
          omega
theorem inside_drop {G : Gr} (hG : G.Ok) {keep : List Bool} (hl : keep.length = G.n) {v : Nat} (hv : v < G.n) (hk : keep.getD v false = true) : insideE G keep = insideE G (keep.set v false) + (G.nb v).countP (fun u => keep.getD u false) := by
  have h := drop_count (keep := keep) (v := v) (by omega) G.pairs (fun p hp => by
    obtain ⟨a, b⟩ := p
    exact ((Gr.mem_pairs hG).1 hp).1)
  have h1 := first_count G hk G.n
  have h2 := second_count G hk G.n
  rw [if_pos hv] at h1 h2
  rw [← (pairs2_perm hG).countP_eq] at h2
  have h3 := count_split hG keep v
  have h1' : G.pairs.countP (firstP keep v) = (G.nb v).countP (fun u => decide (v < u) && keep.getD u false) := h1
  unfold insideE
  omega
/-- D a vertex at most. -/
theorem inside_le {G : Gr} (hG : G.Ok) (hn : G.n ≤ 4096) {D : Nat} (hD : maxTo 0 (coresOf G) = (D : Int)) : ∀ (m : Nat) (keep : List Bool), keep.length = G.n → keep.count true = m → insideE G keep ≤ D * m := by
  have hc := coresOf_ok hG (show G.n ≤ 16777216 by omega)
  obtain ⟨m1, m2, m3, m4, m5⟩ := max_cores hG hn
  intro m
  induction m with
  | zero =>
    intro keep hl h0
    have : insideE G keep = 0 := by
      unfold insideE
      rw [List.countP_eq_zero]
      intro p _ hp
      unfold keepP at hp
      rw [Bool.and_eq_true] at hp
      have := Cores6.count_none (r := keep) (by omega) p.1
      have e : bset keep p.1 = true := hp.1
      rw [this] at e
      cases e
    omega
  | succ m ih =>
    intro keep hl h0
    by_cases hex : ∃ v, v < G.n ∧ keep.getD v false = true ∧ (G.nb v).countP (fun u => keep.getD u false) ≤ D
    · obtain ⟨v, h1, h2, h3⟩ := hex
      have h4 := count_setF keep v h2
      have := ih (keep.set v false) (by rw [List.length_set]; exact hl) (by omega)
      rw [inside_drop hG hl h1 h2, Nat.mul_succ]
      omega
    · exfalso
      have hd : Hx.Dense G.n (nbsOf G) (bset keep) ((D : Int) + 1) := fun u hu => by
        have hun := bset_lt hu
        refine ⟨by omega, ?_⟩
        rw [inSet_nat]
        rcases Nat.lt_or_ge D ((G.nb u).countP (fun u => keep.getD u false)) with q | q
        · omega
        · exact absurd ⟨u, by omega, hu, q⟩ hex
      obtain ⟨u, hu⟩ := Cores6.count_some (r := keep) (by omega)
      have h5 := hc.le (k := (D : Int) + 1) (v := u) ⟨_, hu, hd⟩
      have h6 := m5 u (by have := bset_lt hu; omega)
      omega
theorem core_at {c : List Int} {k : Int} {v : Nat} (hv : v < c.length) : (coreAt c k).getD v false = decide (c.getD v 0 ≥ k) := by
  unfold coreAt
  simp [List.getD_eq_getElem?_getD, hv]
theorem dense_core {G : Gr} (hG : G.Ok) (hn : G.n ≤ 4096) (k : Int) : Hx.Dense G.n (nbsOf G) (bset (coreAt (coresOf G) k)) k := fun u hu => by
  have hc := coresOf_ok hG (show G.n ≤ 16777216 by omega)
  have hl := coresOf_len hG hn
  have hun := bset_lt hu
  rw [core_len hG hn] at hun
  have hk : (coreAt (coresOf G) k).getD u false = true := hu
  rw [core_at (by omega), decide_eq_true_eq] at hk
  refine ⟨hun, ?_⟩
  obtain ⟨S, h1, h2⟩ := Hx.InCore.mono (hc.isin u hun) hk
  refine Int.le_trans (h2 u h1).2 (Hx.inSet_mono (fun x hx hs => ?_))
  have h3 := (h2 _ hs).1
  have h4 := hc.le (k := k) (v := x.toNat) ⟨S, hs, h2⟩
  show (coreAt (coresOf G) k).getD x.toNat false = true
  rw [core_at (by omega), decide_eq_true_eq]
  exact h4
/-- The greatest core has D / 2 edges a vertex. -/
theorem core_edges {G : Gr} (hG : G.Ok) (hn : G.n ≤ 4096) (k : Nat) : k * (coreAt (coresOf G) (k : Int)).count true ≤ 2 * insideE G (coreAt (coresOf G) (k : Int)) := by
  rw [← insDeg_is hG]
  refine insDeg_ge (core_len hG hn _) (fun v hv hb => ?_)
  have := (dense_core hG hn (k : Int) v hb).2
  rw [inSet_nat] at this
  omega
theorem dst_max {f : Nat → Nat} {T : Nat} (hf : ∀ j, j < T → f j < 9218868437227405312) : (dstTo f T).2 < 9218868437227405312 ∧ (∀ j, j < T → f j ≤ (dstTo f T).2) ∧ (0 < T → ∃ k, k < T ∧ (dstTo f T).1 = (k : Int) ∧ (dstTo f T).2 = f k) := by
  induction T with
  | zero => exact ⟨show (0 : Nat) < 9218868437227405312 by decide, fun j hj => by omega, fun h => by omega⟩
  | succ T ih =>
    obtain ⟨h1, h2, h3⟩ := ih (fun j hj => hf j (by omega))
    have hT := hf T (by omega)
    rw [dstTo]
    by_cases h : ordG (f T) (dstTo f T).2 = true
    · rw [if_pos h]
      have h4 := (ordG_iff hT h1).1 h
      refine ⟨hT, fun j hj => ?_, fun _ => ⟨T, by omega, rfl, rfl⟩⟩
      rcases Nat.lt_or_ge j T with q | q
      · have := h2 j q
        simp only
        omega
      · have : j = T := by omega
        rw [this]
        exact Nat.le_refl _
    · rw [if_neg h]
      have h4 : ¬ (dstTo f T).2 ≤ f T := fun q => h ((ordG_iff hT h1).2 q)
      refine ⟨h1, fun j hj => ?_, fun _ => ?_⟩
      · rcases Nat.lt_or_ge j T with q | q
        · exact h2 j q
        · have : j = T := by omega
          rw [this]
          omega
      · rcases Nat.eq_zero_or_pos T with h0 | h0
        · subst h0
          exact absurd (Nat.zero_le _) h4
        · obtain ⟨k, g1, g2, g3⟩ := h3 h0
          exact ⟨k, by omega, g2, g3⟩
theorem inside_sq {G : Gr} (hn : G.n ≤ 120) (keep : List Bool) : insideE G keep ≤ 14400 := by
  unfold insideE
  exact Nat.le_trans List.countP_le_length (Nat.le_trans (edges_le G) (Nat.mul_le_mul hn hn))
theorem core_cnt {G : Gr} (hG : G.Ok) (hn : G.n ≤ 120) (k : Int) : (coreAt (coresOf G) k).count true ≤ 120 := by
  have := List.count_le_length (a := true) (l := coreAt (coresOf G) k)
  rw [core_len hG (show G.n ≤ 4096 by omega)] at this
  omega
theorem dens_small {G : Gr} (hG : G.Ok) (hn : G.n ≤ 120) (k : Int) : densAt G k < 9218868437227405312 := by
  unfold densAt dens
  have h1 := inside_sq hn (coreAt (coresOf G) k)
  have h2 := core_cnt hG hn k
  split
  · decide
  · rename_i h
    rcases Nat.eq_zero_or_pos (insideE G (coreAt (coresOf G) k)) with e | e
    · rw [e, quot_zero (by omega) (by omega)]
      decide
    · exact quot_small e (by omega) (by omega) (by omega)
/-- The core that is named is dense enough. -/
theorem half {G : Gr} (hG : G.Ok) (hn : G.n ≤ 120) {D : Nat} (hD : maxTo 0 (coresOf G) = (D : Int)) : D * (coreAt (coresOf G) (thickOf G).1).count true ≤ 2 * insideE G (coreAt (coresOf G) (thickOf G).1) := by
  have hn2 : G.n ≤ 4096 := by omega
  obtain ⟨m1, m2, m3, m4, m5⟩ := max_cores hG hn2
  rcases Nat.eq_zero_or_pos D with h0 | h0
  · rw [h0, Nat.zero_mul]
    exact Nat.zero_le _
  · have hnp : 0 < G.n := by
      rcases Nat.eq_zero_or_pos G.n with e | e
      · have : coresOf G = [] := List.length_eq_zero_iff.1 (by rw [coresOf_len hG hn2]; exact e)
        rw [this] at hD
        have : (0 : Int) = (D : Int) := hD
        omega
      · exact e
    have ht : tops (coresOf G) = D + 1 := by unfold tops; rw [m3 hnp]; omega
    obtain ⟨d1, d2, d3⟩ := dst_max (f := fun k => densAt G (k : Int)) (T := tops (coresOf G)) (fun j _ => dens_small hG hn _)
    obtain ⟨k, k1, k2, k3⟩ := d3 (by omega)
    have hDd := d2 D (by omega)
    rw [k3] at hDd
    rw [show (thickOf G).1 = (k : Int) from k2]
    have e1 := inside_sq hn (coreAt (coresOf G) (D : Int))
    have c1 := core_cnt hG hn (D : Int)
    have e2 := inside_sq hn (coreAt (coresOf G) (k : Int))
    have c2 := core_cnt hG hn (k : Int)
    have ce := core_edges hG hn2 D
    have hD120 : D < 120 := by
      rcases maxTo_mem (coresOf G) 0 with q | q
      · omega
      · obtain ⟨i, hi, e⟩ := List.getElem_of_mem q
        rw [coresOf_len hG hn2] at hi
        obtain ⟨x, x1, x2, x3⟩ := coresOf_at hG hn2 hi
        rw [List.getD_eq_getElem?_getD, List.getElem?_eq_getElem (by rw [coresOf_len hG hn2]; exact hi)] at x1
        have : (coresOf G)[i] = (x : Int) := x1
        omega
    have cD : 0 < (coreAt (coresOf G) (D : Int)).count true := by
      rw [core_count]
      refine List.countP_pos_iff.2 ?_
      rcases maxTo_mem (coresOf G) 0 with q | q
      · omega
      · exact ⟨_, q, by rw [decide_eq_true_eq]; omega⟩
    obtain ⟨eD, hed⟩ : ∃ x, x = insideE G (coreAt (coresOf G) (D : Int)) := ⟨_, rfl⟩
    obtain ⟨mD, hmd⟩ : ∃ x, x = (coreAt (coresOf G) (D : Int)).count true := ⟨_, rfl⟩
    obtain ⟨e, he⟩ : ∃ x, x = insideE G (coreAt (coresOf G) (k : Int)) := ⟨_, rfl⟩
    obtain ⟨m, hm⟩ : ∃ x, x = (coreAt (coresOf G) (k : Int)).count true := ⟨_, rfl⟩
    unfold densAt at hDd
    rw [← hed, ← hmd, ← he, ← hm] at hDd
    rw [← hed] at e1 ce
    rw [← hmd] at c1 ce cD
    rw [← he] at e2 ⊢
    rw [← hm] at c2 ⊢
    have heD : 0 < eD := by
      rcases Nat.eq_zero_or_pos eD with q | q
      · rw [q] at ce
        have : 1 * 1 ≤ D * mD := Nat.mul_le_mul h0 cD
        omega
      · exact q
    have low := (quot_cmp (e := eD) (c := mD) (a := 128 * D) heD (by omega) cD (by omega) (by omega) (by omega)).1 (by rw [Nat.mul_assoc]; omega)
    have bl := bits8_lt (a := 128 * D) (by omega) (by omega)
    have bp : 0 < bits8 (128 * D - 1) := by
      unfold bits8
      have := (sig_is (n := 128 * D - 1) (by omega) (by omega)).1
      omega
    unfold dens at hDd
    rw [if_neg (by omega)] at hDd
    rcases Nat.lt_or_ge (2 * e) (D * m) with q | q
    · exfalso
      have hmp : 0 < m := by
        rcases Nat.eq_zero_or_pos m with z | z
        · rw [z, Nat.mul_zero] at q; omega
        · exact z
      rw [if_neg (by omega)] at hDd
      rcases Nat.eq_zero_or_pos e with z | z
      · rw [z, quot_zero hmp (by omega)] at hDd
        omega
      · have up := (quot_cmp (e := e) (c := m) (a := 128 * D - 1) z (by omega) hmp (by omega) (by omega) (by omega)).2 (by
          rw [Nat.sub_mul, Nat.mul_assoc]
          omega)
        omega
    · exact q
namespace PeelHalf
theorem F12_is {set : List Bool} {r9 : Option (List (List Int))} {k : Int} {c : List Int} {n : Nat} (hn : n ≤ 4096) (hl : c.length = n) :
    ∃ all, F12 set r9 k 0 c (List.replicate n false) (List.replicate n false) = some ((r9, ()), (c, coreAt c k, all, ())) ∧ all.length = n := by
  have key := F12_inv (set2 := set) (r9 := r9) (k11 := k) (r0 := c) (fun v r1 r2 => ∃ j : Nat, v = (j : Int) ∧ j ≤ n ∧ r1.length = n ∧ r2.length = n ∧ ∀ u, u < j → r1.getD u false = decide (c.getD u 0 ≥ k)) (fun v _ _ => n - v.toNat)
    (fun z => ∃ all, z = ((r9, ()), (c, coreAt c k, all, ())) ∧ all.length = n) (fun v r1 r2 hI => by
      obtain ⟨j, rfl, hj, l1, l2, hx⟩ := hI
      unfold R12
      refine led_dif (fun q1 => ?_) (fun q1 => led_x ⟨r2, ?_, l2⟩)
      · have hw : IntKind.wrap .i64 ((j : Int) + 1) = (j : Int) + 1 := wr (by omega) (by omega)
        have a1 : (0 : Int) ≤ (j : Int) := by omega
        have a2 : (j : Int) < (r1.length : Int) := by omega
        have a3 : j < r1.length := by omega
        have a4 : (j : Int) < (r2.length : Int) := by omega
        have a5 : j < r2.length := by omega
        have nx : ∀ u, u < j + 1 → (r1.set j (decide (c.getD j 0 ≥ k))).getD u false = decide (c.getD u 0 ≥ k) := fun u hu => by
          rw [Hx.getD_setG]
          by_cases e : j = u
          · subst e
            rw [if_pos ⟨rfl, a3⟩]
          · rw [if_neg (fun q => e q.1), hx u (by omega)]
        by_cases h : (j : Int) ≥ (set.length : Int)
        · simp only [Int.toNat_natCast, hw, a1, a2, a3, a4, a5, q1, h, decide_true, Bool.true_eq_false, if_true, if_false]
          exact led_k ⟨_, _, _, rfl, ⟨j + 1, by omega, by omega, by rw [List.length_set]; exact l1, by rw [List.length_set]; exact l2, nx⟩, by omega⟩
        · have a6 : (j : Int) < (set.length : Int) := by omega
          simp only [Int.toNat_natCast, hw, a1, a2, a3, a4, a5, a6, q1, h, decide_false, if_true]
          exact led_k ⟨_, _, _, rfl, ⟨j + 1, by omega, by omega, by rw [List.length_set]; exact l1, by rw [List.length_set]; exact l2, nx⟩, by omega⟩
      · have e : r1 = coreAt c k := ext_getD false (by unfold coreAt; rw [List.length_map]; omega) (fun u hu => by
          rw [hx u (by omega), core_at (by omega)])
        rw [e]) 0 (List.replicate n false) (List.replicate n false) ⟨0, rfl, by omega, by simp, by simp, fun u hu => by omega⟩
  obtain ⟨z, hz, all, rfl, h⟩ := key
  exact ⟨all, hz, h⟩
theorem holds (n : Int) (l : List (Int × Int)) (set : List Bool) (w0 : (Lit.int .i64 n).wf = true) (w1 : l.length ≤ maxLen ∧ ∀ x ∈ l, (Lit.int .i64 x.1).wf = true ∧ (Lit.int .i64 x.2).wf = true) (w2 : set.length ≤ maxLen ∧ ∀ x ∈ set, True) : pre n l set = true ∧ fn n l set = (true, ()) := by
  refine is_fn _ _ _ ?_
  unfold run'
  obtain ⟨G, hG, hn, hp, hf⟩ := made6.is n l
  have hn2 : G.n ≤ 4096 := by omega
  have hl := coresOf_len hG hn2
  obtain ⟨m1, m2, m3, m4, m5⟩ := max_cores hG hn2
  obtain ⟨D, hD⟩ : ∃ D : Nat, maxTo 0 (coresOf G) = (D : Int) := ⟨(maxTo 0 (coresOf G)).toNat, by omega⟩
  obtain ⟨all, hF, hal⟩ := F12_is (set := set) (r9 := some (rowsOf G)) (k := (thickOf G).1) hn2 hl
  have d := DstP.is hG hn2
  have g := greatL.is (l := coresOf G) (by omega)
  have wk := Within6.is hG hn2 (keep := coreAt (coresOf G) (thickOf G).1) (core_len hG hn2 _)
  have wa := Within6.is hG hn2 (keep := all) hal
  have ha := half hG hn hD
  have hi := inside_le hG hn2 hD _ all hal rfl
  have ca := List.count_le_length (a := true) (l := all)
  have cm := core_cnt hG hn (thickOf G).1
  have ea := inside_sq hn all
  have ek := inside_sq hn (coreAt (coresOf G) (thickOf G).1)
  have room : G.n * 1 ≤ 140737488355328 := by omega
  rw [hD] at g
  obtain ⟨e, he⟩ : ∃ x, x = insideE G (coreAt (coresOf G) (thickOf G).1) := ⟨_, rfl⟩
  obtain ⟨m, hm⟩ : ∃ x, x = (coreAt (coresOf G) (thickOf G).1).count true := ⟨_, rfl⟩
  obtain ⟨x, hx⟩ : ∃ q, q = insideE G all := ⟨_, rfl⟩
  obtain ⟨s, hs⟩ : ∃ q, q = all.count true := ⟨_, rfl⟩
  rw [← he] at ha ek wk
  rw [← hm] at ha cm wk
  rw [← hx] at hi ea wa
  rw [← hs] at hi ca wa
  have b1 : D * s ≤ 4096 * 120 := Nat.mul_le_mul (by omega) (by omega)
  have b2 : x * m ≤ 14400 * 120 := Nat.mul_le_mul ea cm
  have b3 : e * s ≤ 14400 * 120 := Nat.mul_le_mul ek (by omega)
  have i1 : (D : Int) * (s : Int) = ((D * s : Nat) : Int) := by omega
  have i2 : (x : Int) * (m : Int) = ((x * m : Nat) : Int) := by omega
  have i3 : (2 : Int) * (e : Int) = ((2 * e : Nat) : Int) := by omega
  have i4 : ((2 * e : Nat) : Int) * (s : Int) = ((2 * e * s : Nat) : Int) := by omega
  have b4 : 2 * e * s ≤ 2 * 14400 * 120 := Nat.mul_le_mul (by omega) (by omega)
  have v1 : IntKind.wrap .i64 ((D : Int) * (s : Int)) = ((D * s : Nat) : Int) := by rw [i1, wr (by omega) (by omega)]
  have v2 : IntKind.wrap .i64 ((x : Int) * (m : Int)) = ((x * m : Nat) : Int) := by rw [i2, wr (by omega) (by omega)]
  have v3 : IntKind.wrap .i64 ((2 : Int) * (e : Int)) = ((2 * e : Nat) : Int) := by rw [i3, wr (by omega) (by omega)]
  have v4 : IntKind.wrap .i64 (((2 * e : Nat) : Int) * (s : Int)) = ((2 * e * s : Nat) : Int) := by rw [i4, wr (by omega) (by omega)]
  have fin : x * m ≤ 2 * e * s := by
    refine Nat.le_trans (Nat.mul_le_mul_right m hi) ?_
    rw [Nat.mul_right_comm]
    exact Nat.mul_le_mul_right s ha
  have t1 : ((x : Int) ≤ ((D * s : Nat) : Int)) := by omega
  have t2 : (((x * m : Nat) : Int) ≤ ((2 * e * s : Nat) : Int)) := by omega
  simp only [first6.is.1, first6.is.2, hp, hf, Bool.not_true, Option.isNone_some, (cores_fn hn2).1, (cores_fn hn2).2, (n_fn G).1, (n_fn G).2, hl, bne_self_eq_false, Int.toNat_natCast, d.1, d.2, room, hF, wk.1, wk.2, wa.1, wa.2, g.1, g.2, v1, v2, v3, v4, t1, t2, decide_true, if_true, if_false, Bool.false_eq_true]
end PeelHalf
end Go.Proofs.Ythbojpaghbbnnaa.Z
namespace Go.Proofs.Ythbojpaghbbnnaa.Z
open Go Go.RowKit Go.ChangeShapes Go.WideShapes Go.ChangeAt
set_option linter.unusedVariables false
set_option linter.unusedSimpArgs false
section
variable {ρ : Obs} {H : Type} {enc : TypeId × Value → H} {P : Program} {w : World}
abbrev U0 : Nat → Prop := fun _ => False
/-- Cells that are read as of type id are a plain value, of which W holds. -/
def Opens (ρ : Obs) (enc : TypeId × Value → H) (P : Program) (w : World) (id : TypeId) (t : T) (W : t.den → Prop) : Prop :=
  ∀ (fuel : Nat) (cs : List Value) (x : DataW H × List MemPlace), DataW.trod enc P w 0 (fun _ => true) true fuel id cs = some x → ∃ y : t.den, ICs ρ U0 w t cs y ∧ W y
theorem opens_int {id : TypeId} {k : IntKind} (h : P.underlying id = some (.int k)) : Opens ρ enc P w id (.int k) (fun x : Int => (Lit.int k x).wf = true) := by
  intro fuel cs x hx
  obtain ⟨n, rfl, _, hw⟩ := DataW.trod_int h hx
  exact ⟨n, rfl, hw⟩
theorem opens_bool {id : TypeId} (h : P.underlying id = some .bool) : Opens ρ enc P w id .bool (fun _ => True) := by
  intro fuel cs x hx
  obtain ⟨b, rfl, _⟩ := DataW.trod_bool h hx
  exact ⟨b, rfl, trivial⟩
theorem opens_two {id : TypeId} {f0 f1 : Field} {t0 t1 : T} {W0 : t0.den → Prop} {W1 : t1.den → Prop} (h : P.underlying id = some (.struct #[f0, f1])) (hc : P.cellsOf id = P.cellsOf f0.type + P.cellsOf f1.type)
    (o0 : f0.offset = 0) (o1 : f1.offset = P.cellsOf f0.type) (h0 : Opens ρ enc P w f0.type t0 W0) (h1 : Opens ρ enc P w f1.type t1 W1) : Opens ρ enc P w id (.pair t0 t1) (fun x => W0 x.1 ∧ W1 x.2) := by
  intro fuel cs x hx
  obtain ⟨xs, n, _, _, hl, hxl, hf⟩ := DataW.trod_struct h hx
  have g0 := hf 0 f0 rfl
  have g1 := hf 1 f1 rfl
  rw [o0, List.drop_zero, List.getElem?_eq_getElem (by rw [hxl]; simp)] at g0
  rw [o1, List.take_of_length_le (by rw [List.length_drop]; omega), List.getElem?_eq_getElem (by rw [hxl]; simp)] at g1
  obtain ⟨y0, q0, k0⟩ := h0 _ _ _ g0
  obtain ⟨y1, q1, k1⟩ := h1 _ _ _ g1
  exact ⟨(y0, y1), ⟨_, _, (List.take_append_drop _ _).symm, q0, q1⟩, k0, k1⟩
theorem opens_three {id : TypeId} {f0 f1 f2 : Field} {t0 t1 t2 : T} {W0 : t0.den → Prop} {W1 : t1.den → Prop} {W2 : t2.den → Prop} (h : P.underlying id = some (.struct #[f0, f1, f2]))
    (hc : P.cellsOf id = P.cellsOf f0.type + P.cellsOf f1.type + P.cellsOf f2.type) (o0 : f0.offset = 0) (o1 : f1.offset = P.cellsOf f0.type) (o2 : f2.offset = P.cellsOf f0.type + P.cellsOf f1.type)
    (h0 : Opens ρ enc P w f0.type t0 W0) (h1 : Opens ρ enc P w f1.type t1 W1) (h2 : Opens ρ enc P w f2.type t2 W2) : Opens ρ enc P w id (.pair t0 (.pair t1 t2)) (fun x => W0 x.1 ∧ W1 x.2.1 ∧ W2 x.2.2) := by
  intro fuel cs x hx
  obtain ⟨xs, n, _, _, hl, hxl, hf⟩ := DataW.trod_struct h hx
  have g0 := hf 0 f0 rfl
  have g1 := hf 1 f1 rfl
  have g2 := hf 2 f2 rfl
  rw [o0, List.drop_zero, List.getElem?_eq_getElem (by rw [hxl]; simp)] at g0
  rw [o1, List.getElem?_eq_getElem (by rw [hxl]; simp)] at g1
  rw [o2, List.take_of_length_le (by rw [List.length_drop]; omega), List.getElem?_eq_getElem (by rw [hxl]; simp), ← List.drop_drop] at g2
  obtain ⟨y0, q0, k0⟩ := h0 _ _ _ g0
  obtain ⟨y1, q1, k1⟩ := h1 _ _ _ g1
  obtain ⟨y2, q2, k2⟩ := h2 _ _ _ g2
  exact ⟨(y0, y1, y2), ⟨_, _, (List.take_append_drop _ _).symm, q0, _, _, (List.take_append_drop _ _).symm, q1, q2⟩, k0, k1, k2⟩
theorem cell_spot {a : Addr} {v : Value} (h : w.cell? a = some v) : a.spot = none := by
  unfold World.cell? at h
  split at h
  · split at h
    · cases h
    · rename_i hs
      cases hsp : a.spot with
      | none => rfl
      | some x => rw [hsp] at hs; simp at hs
  · cases h
theorem add_add (a : Addr) (m n : Nat) : (a.add m).add n = a.add (m + n) := by
  unfold Addr.add
  by_cases hm : m = 0
  · subst hm
    simp
  · by_cases hn : n = 0
    · subst hn
      simp
    · rw [if_neg hm, if_neg hn, if_neg (by omega)]
      simp only [Addr.mk.injEq]
      exact ⟨trivial, by omega, trivial⟩
theorem opens_list {id e : TypeId} {t : T} {W : t.den → Prop} (h : P.underlying id = some (.slice e)) (hc : P.cellsOf e = t.size) (he : Opens ρ enc P w e t W) : Opens ρ enc P w id (.list t) (fun xs => List.length xs ≤ maxLen ∧ ∀ x ∈ xs, W x) := by
  intro fuel cs x hx
  rcases DataW.trod_slice h hx with ⟨rfl, _⟩ | ⟨a, len, cap, elems, rest, n, _, rfl, _, _, hl, hm, hlen, hel, _, _⟩
  · exact ⟨([] : List t.den), ⟨none, 0, [], rfl, Nat.zero_le _, Nat.le_refl _, rfl, fun h => absurd h (by simp)⟩, Nat.zero_le _, by simp⟩
  · have key : ∀ k, k ≤ len → ∃ (ds : List Value) (ys : List t.den), ys.length = k ∧ Els (ICs ρ U0 w t) ds ys ∧ (∀ x ∈ ys, W x) ∧ ∀ j, j < ds.length → w.cell? (a.add j) = ds[j]? := by
      intro k
      induction k with
      | zero => exact fun _ => ⟨[], [], rfl, rfl, by simp, by simp⟩
      | succ k ih =>
        intro hk
        obtain ⟨ds, ys, h1, h2, h3, h4⟩ := ih (by omega)
        have h5 := hel k (by omega)
        rw [List.getElem?_eq_getElem (by omega), Option.bind_eq_some_iff] at h5
        obtain ⟨c, h6, h7⟩ := h5
        obtain ⟨y, q, wy⟩ := he _ _ _ h7
        obtain ⟨_, hcl, hcell⟩ := World.cells?_some h6
        have hdl : ds.length = k * t.size := by rw [Els.length (fun _ _ q => ICs.length q) h2, h1]
        refine ⟨ds ++ c, ys ++ [y], by simp [h1], h2.append ⟨c, [], by simp, q, rfl⟩, fun x hx => ?_, fun j hj => ?_⟩
        · rcases List.mem_append.1 hx with hx | hx
          · exact h3 x hx
          · rw [List.mem_singleton] at hx; subst hx; exact wy
        · by_cases hj1 : j < ds.length
          · rw [List.getElem?_append_left hj1]
            exact h4 j hj1
          · rw [List.getElem?_append_right (by omega)]
            have := hcell (j - ds.length) (by rw [List.length_append] at hj; omega)
            rw [add_add, hc, ← hdl, show ds.length + (j - ds.length) = j by omega] at this
            exact this
    obtain ⟨ds, ys, h1, h2, h3, h4⟩ := key len (Nat.le_refl _)
    subst h1
    have hdl : ds.length = ys.length * t.size := Els.length (fun _ _ q => ICs.length q) h2
    refine ⟨ys, ⟨some a, cap, ds, rfl, by omega, hl, h2, fun hp => ?_⟩, by omega, h3⟩
    have hd : 0 < ds.length := by rw [hdl]; exact Nat.mul_pos hp (T.size_pos t)
    have h5 := h4 0 hd
    rw [List.getElem?_eq_getElem hd, show a.add 0 = a from rfl] at h5
    have hs := cell_spot h5
    have hb := cell_lt h5
    obtain ⟨b, off, sp⟩ := a
    obtain rfl : sp = none := hs
    refine ⟨b, off, rfl, fun w' ha j hj => ?_⟩
    rw [World.cell?_of_block (ha.block b hb (fun h => h))]
    have := h4 j hj
    by_cases hj0 : j = 0
    · subst hj0; exact this
    · unfold Addr.add at this
      rw [if_neg hj0] at this
      exact this
/-- An argument's own value. -/
theorem ird_of {id : TypeId} {t : T} {W : t.den → Prop} {v : Value} {d : DataW H} {p : List MemPlace} (h : Opens ρ enc P w id t W) (hv : v = pack t v.cells.toList) (hd : DataW.Trod enc P w 0 (fun _ => true) true id v d p) : ∃ y, IRd ρ U0 w t v y ∧ W y := by
  obtain ⟨fuel, hf⟩ := hd
  obtain ⟨y, q, hy⟩ := h _ _ _ hf
  exact ⟨y, ⟨_, hv, q⟩, hy⟩
theorem lit_wf {x : Int} (h : (Lit.int .i64 x).wf = true) : Wf x := by
  unfold Wf
  simp [Lit.wf, IntKind.min, IntKind.max, IntKind.signed, IntKind.bits] at h
  omega
end
/-- The walk of a statement: a plain function that tells true of all plain values that may be handed in. -/
theorem calls_true {P : Program} {ρ : Obs} {f : FuncId} {ps : List PM} {pre : Ds (ps.map PM.ty) → Bool} {fn : Ds (ps.map PM.ty) → Ds (muts ps ++ ([.val .bool] : List PM).map PM.ty)} (hs : Sound P ρ f ⟨ps, [.val .bool], pre, fn, false⟩) (hn : nOwn ps = 0)
    (d : Ds (ps.map PM.ty)) (hp : pre d = true) (hf : (dr (fn d)).1 = true) (w : World) (vs : List Value) (ha : ArgsOk ρ U0 w (fun _ => nilV) ps d vs 0) : Calls P f vs.toArray w fun e w' => e = .returned (.bool true) ∧ Below w.heap.size w w' := by
  have ap : Apart (nOwn ps) (fun _ => nilV) := by rw [hn]; exact apart0 _
  refine (hs d hp w U0 U0 (fun _ => nilV) vs (fun _ h => h.elim) (fun _ h => h.elim) (fun _ _ h => h) ap ?_).mono ?_
  · have e : Us U0 (nOwn ps) (fun _ => nilV) = U0 := by
      funext b
      refine propext ⟨fun h => h.elim id (fun ⟨i, hi, _⟩ => by rw [hn] at hi; exact absurd hi (Nat.not_lt_zero i)), fun h => h.elim⟩
    show ArgsOk ρ (Us U0 (nOwn ps) (fun _ => nilV)) w (fun _ => nilV) ps d vs 0
    rw [e]
    exact ha
  · rintro e w' ⟨rvs, hd', rfl, hag, _, _, _, _, hr⟩
    match rvs, hr with
    | [v], ⟨h1, _⟩ =>
      refine ⟨?_, hag.below (fun b _ hb => hb.elim id (fun ⟨i, hi, _⟩ => by
        have hi' : i < nOwn ps := hi
        rw [hn] at hi'
        exact absurd hi' (Nat.not_lt_zero i)))⟩
      obtain rfl := h1.bool
      have e : (dr (fn d)).1 = true := hf
      show Ending.returned (.bool (dr (fn d)).1) = _
      rw [e]
end Go.Proofs.Ythbojpaghbbnnaa.Z
namespace Go.Proofs.Ythbojpaghbbnnaa.peelHalf
open Go Go.ChangeShapes Go.WideShapes Go.ChangeAt Go.RowKit Go.Proofs.Ythbojpaghbbnnaa.Z
set_option linter.unusedVariables false
set_option maxRecDepth 100000 in
theorem lifted (os : Os) (started : os.Started) (H : Type) (enc : TypeId × Value → H) :
    ReturnsInHanded {} Try.checked os 26 .any (Rows.peelHalfSpec.pre6 enc Try.prog Try.f26 Rows.peelHalfRow.domain false) (Rows.peelHalfSpec.post enc Try.prog Try.f26 false true false false) := by
  refine returnsInHanded_of_change_sized (C := Try.checked) Facts.own started (by kernel_rfl) Try.func26
    (ChangeSpec.witness6 (enc := enc) (C := Try.checked) false ⟨#[], #[.int .i64 0, .slice none 0 0, .slice none 0 0], []⟩ 8 (by kernel_rfl) (by kernel_rfl) (by kernel_rfl) (by kernel_rfl)) ?_
  intro W base args ds gs before hval0 hW hcnd hsz0 _
  have hval : ∀ (j : Nat) t v, Try.f26.params[j]? = some t → args[j]? = some v → Value.okWide Try.prog W .any base t v := hval0
  have hW' := hW
  obtain ⟨p, q, hA0, hV, rfl, hfz, hnd⟩ := hW
  have hA : DataW.TrodAll enc Try.prog W 0 (fun _ => true) true Try.f26.params.toList args.toList ds p := hA0
  rw [Try.params26] at hA hval
  obtain ⟨v0, vs0, d0, ds0, p0, q0, hargs, rfl, rfl, h0, r0⟩ := trodAll_cons hA
  obtain ⟨v1, vs1, d1, ds1, p1, q1, rfl, rfl, rfl, h1, r1⟩ := trodAll_cons r0
  obtain ⟨v2, vs2, d2, ds2, p2, q2, rfl, rfl, rfl, h2, r2⟩ := trodAll_cons r1
  obtain ⟨rfl, rfl, rfl⟩ := trodAll_nil r2
  obtain rfl : args = #[v0, v1, v2] := by cases args; simp_all
  obtain ⟨rfl, rfl⟩ := trodVars_none hV
  have k0 := h0
  have lt0 : ∀ x ∈ p0, x.block < W.heap.size := by obtain ⟨m, hm⟩ := k0; exact DataW.trod_lt m _ _ _ hm
  obtain ⟨y0, e0⟩ := okWide_int Try.underlying3 (hval 0 3 v0 rfl rfl)
  subst e0
  obtain ⟨x0, g0, w0⟩ := ird_of (ρ := rho) (opens_int Try.underlying3) rfl h0
  have k1 := h1
  have lt1 : ∀ x ∈ p1, x.block < W.heap.size := by obtain ⟨m, hm⟩ := k1; exact DataW.trod_lt m _ _ _ hm
  obtain ⟨a1, len1, cap1, e1⟩ := okWide_slice Try.underlying23 (hval 1 23 v1 rfl rfl)
  subst e1
  obtain ⟨x1, g1, w1⟩ := ird_of (ρ := rho) (opens_list (ρ := rho) Try.underlying23 (by kernel_rfl) (opens_two (ρ := rho) Try.underlying32 (by kernel_rfl) rfl rfl (opens_int Try.underlying3) (opens_int Try.underlying3))) rfl h1
  have k2 := h2
  have lt2 : ∀ x ∈ p2, x.block < W.heap.size := by obtain ⟨m, hm⟩ := k2; exact DataW.trod_lt m _ _ _ hm
  obtain ⟨a2, len2, cap2, e2⟩ := okWide_slice Try.underlying24 (hval 2 24 v2 rfl rfl)
  subst e2
  obtain ⟨x2, g2, w2⟩ := ird_of (ρ := rho) (opens_list (ρ := rho) Try.underlying24 (by kernel_rfl) (opens_bool Try.underlying4)) rfl h2
  clear hA0 hval0
  obtain ⟨hp, hf⟩ := PeelHalf.holds x0 x1 x2 w0 w1 w2
  refine (calls_true (PeelHalf.okR).2 rfl (x0, x1, x2, ()) hp (congrArg (·.1) hf) W [.int .i64 y0, .slice a1 len1 cap1, .slice a2 len2 cap2] ⟨g0, g1, g2, trivial⟩).mono fun e W' ⟨he, bel⟩ => ?_
  subst he
  exact ⟨_, rfl, _, _, _, [], _, [], hW', trodAll_mk1 (shut_bool Try.underlying4 _), (trodAll_cons_mk (Below.trod Facts.laidOut (by kernel_rfl) (of_decide_eq_true (by kernel_rfl)) k0 bel lt0) (trodAll_cons_mk (Below.trod Facts.laidOut (by kernel_rfl) (of_decide_eq_true (by kernel_rfl)) k1 bel lt1) (trodAll_cons_mk (Below.trod Facts.laidOut (by kernel_rfl) (of_decide_eq_true (by kernel_rfl)) k2 bel lt2) trodAll_mk0))), rfl, bel.frame _, fun h => by cases h⟩
theorem joined : joinedFacts Try.prog 26 Try.f26 Rows.peelHalfSpec Rows.peelHalfRow = true :=
  Facts.joined_of Facts.heads Facts.laidOut Facts.mapsRowed Facts.stops Facts.stopKnobs Facts.stopsHeard Facts.plainKeys rfl rfl rfl rfl rfl rfl
    (by kernel_rfl) (by kernel_rfl) (by kernel_rfl) (by kernel_rfl) (by kernel_rfl) (by kernel_rfl) (by kernel_rfl)
theorem over : Rows.peelHalfRow.holds Try.pinned (OpenSpec.ofChange Rows.peelHalfSpec) :=
  OpenClaim.holds_of_wide 26 Try.f26 rfl rfl rfl rfl rfl rfl rfl ⟨rfl, rfl, rfl, rfl, rfl⟩ rfl rfl rfl rfl rfl (by kernel_rfl) Try.func26 joined
    (of_decide_eq_true (by kernel_rfl)) (by unfold Func.isWrapper; first | (rw [if_pos (by decide +kernel)]; kernel_rfl) | (rw [if_neg (by decide +kernel)]; exact ⟨rfl, rfl⟩))
    (fun os started H enc _ => lifted os started H enc)
theorem proved : Rows.PeelHalfSaid := over
#print axioms proved
end Go.Proofs.Ythbojpaghbbnnaa.peelHalf
namespace Go.Proofs.Ythbojpaghbbnnaa
/-- The row, under a short name, for the claim. -/
theorem peelHalf_holds : Rows.PeelHalfSaid := peelHalf.proved
end Go.Proofs.Ythbojpaghbbnnaa
