/- A part of a claim: what its statement needs. No condition. -/
import Derived.Test.YthbojpaghbbnnaaDoorQa04f298332
import Derived.Test.YthbojpaghbbnnaaDoorShelf
import Derived.Sort.OwnSortedInts
import Derived.Test.YthbojpaghbbnnaaDoorRows
import Derived.LaidMore
import Derived.ProofKit
import Derived.OpenShut
import Derived.Stop.Joined
import Derived.ShutString
import Derived.ChangeOld
import Derived.Below
import Derived.SizedLaws
import Derived.Deep.Slices
import Derived.ChangeSame
import Derived.Shelf.Spec.SlicesGrow
namespace Go.Proofs.YthbojpaghbbnnaaDoor
open Go.RowKit Go.Sort
set_option linter.unusedVariables false
def srt (xs : List Int) : List Int := xs.mergeSort fun x y => decide (x ≤ y)
theorem Sort_own (w : World) {base n : Nat} {v : Value} {xs : List Int} (h : w.ownsRow base 3 1 v n (xs.map (Value.int .i64))) (hb : xs.length < 4611686018427387904) :
    Calls Tryd.prog 75 #[v] w fun e w' => e = .returned (.tuple #[]) ∧ w'.ownsRow base 3 1 v n ((srt xs).map (Value.int .i64)) ∧ w.grownBy w' v.ownBlock := by
  have hn : n = xs.length := by have := h.1; simp at this; exact this.symm
  subst hn
  rcases h.2 with ⟨rfl, h0⟩ | ⟨g, cap, cur, rfl, hbase, hh, h1, h2, h3, h4⟩
  · have hx : xs = [] := List.eq_nil_of_length_eq_zero h0
    subst hx
    refine (Tryd.slices_Sort_int_none none 0 w).mono ?_
    rintro e w' ⟨rfl, rfl⟩
    exact ⟨rfl, by simpa [srt] using h, World.grownBy.refl _ _⟩
  · refine (Tryd.slices_Sort_int g 0 cap xs w (holds_of_blockI hh (by simpa using h4)) (Array.getElem?_eq_some_iff.1 hh).1 hb).mono ?_
    rintro e w' ⟨rfl, m, os, rfl⟩
    exact ⟨rfl, ownsRow_sortedI (by simp) hbase hh h1 h2 h3, grownBy_sortedI _⟩
theorem Clone_any (w : World) {lo hi : Nat} {v : Value} {xs : List Int} (h : Ints w lo hi v xs) (hb : xs.length * 8 ≤ 140737488355328) :
    Calls Tryd.prog 58 #[v] w fun e w' => Below w.heap.size w w' ∧ ∃ v', e = .returned v' ∧ w'.ownsRow w.heap.size 3 1 v' xs.length (xs.map (Value.int .i64)) := by
  obtain ⟨hl, A, c, rfl⟩ := h.form
  rcases Nat.eq_zero_or_pos xs.length with h0 | h0
  · have hx : xs = [] := List.eq_nil_of_length_eq_zero h0
    subst hx
    cases A with
    | none =>
      refine (Tryd.slices_Clone_int_nil 0 c w).mono ?_
      rintro e w' ⟨rfl, rfl⟩
      exact ⟨Below.refl _ _, _, rfl, World.ownsRow_nil _ _ _ _⟩
    | some a =>
      refine (Tryd.slices_Clone_int_zero a c w).mono ?_
      rintro e w' ⟨v', rfl, h1, _, h2⟩
      exact ⟨h2, v', rfl, h1⟩
  · obtain ⟨b, off, rfl, _, _, hc⟩ := h.all h0
    refine (Tryd.slices_Clone_int b off xs.length c xs w (Nat.le_refl _) hb (fun j hj => ?_)).mono ?_
    · rw [hc j hj, List.getD_eq_getElem?_getD, List.getElem?_eq_getElem hj]; rfl
    · rintro e w' ⟨v', rfl, h1, _, h2⟩
      rw [List.take_length] at h1
      exact ⟨h2, v', rfl, h1⟩
/-- Sorted, and of the same numbers: the same list. -/
theorem srt_eq {xs : List Int} {ys : List Nat} (h1 : xs.Nodup) (h2 : ys.Pairwise (· < ·)) (h : ∀ x, x ∈ xs ↔ ∃ y ∈ ys, x = (y : Int)) : srt xs = up ys := by
  have p1 : (srt xs).Perm xs := List.mergeSort_perm _ _
  have hn : (up ys).Nodup := nodup_map (fun a b e => by omega) (List.Pairwise.imp (fun h => Nat.ne_of_lt h) h2)
  have p2 : xs.Perm (up ys) := perm_of_mem h1 hn (fun x => by rw [h, up, List.mem_map]; exact ⟨fun ⟨y, hy, e⟩ => ⟨y, hy, e.symm⟩, fun ⟨y, hy, e⟩ => ⟨y, hy, e.symm⟩⟩)
  have s1 : (srt xs).Pairwise (fun a b => decide (a ≤ b) = true) := List.pairwise_mergeSort (by intro a b c; simp; omega) (by intro a b; simp; omega) xs
  have s2 : (up ys).Pairwise (fun a b => decide (a ≤ b) = true) := by
    unfold up
    rw [List.pairwise_map]
    exact h2.imp (fun h => by simp; omega)
  exact (p1.trans p2).eq_of_pairwise (fun a b _ _ h1 h2 => by simp at h1 h2; omega) s1 s2
end Go.Proofs.YthbojpaghbbnnaaDoor
namespace Go.Proofs.YthbojpaghbbnnaaDoor
open Go.RowKit Go.WideMaps Go.Maps
set_option linter.unusedVariables false
set_option linter.unusedSimpArgs false
/-- The graph of n vertices whose edges are told by E. -/
def Gr.ofE (n : Nat) (E : List (Int × Int)) : Gr := ⟨n, fun u v => decide ((((min u v : Nat) : Int), ((max u v : Nat) : Int)) ∈ E)⟩
def Edgy (n : Nat) (E : List (Int × Int)) : Prop := ∀ p ∈ E, 0 ≤ p.1 ∧ p.1 < p.2 ∧ p.2 < n
theorem ofE_ok {n : Nat} {E : List (Int × Int)} (hr : Edgy n E) (hn : n ≤ 16777216) : (Gr.ofE n E).Ok where
  symm u v := by simp only [Gr.ofE, Nat.min_comm u v, Nat.max_comm u v]
  irr u := by
    simp only [Gr.ofE, decide_eq_false_iff_not]
    intro h
    have := hr _ h
    simp only at this
    omega
  rng u v h := by
    simp only [Gr.ofE, decide_eq_true_eq] at h
    have := hr _ h
    simp only [Gr.ofE] at this ⊢
    omega
  small := hn
theorem ofE_tells {n : Nat} {E : List (Int × Int)} (hr : Edgy n E) (hd : E.Nodup) : Tells E (Gr.ofE n E) := by
  refine ⟨hd, fun a b => ⟨fun h => ?_, ?_⟩⟩
  · have := hr _ h
    simp only at this
    refine ⟨a.toNat, b.toNat, by omega, by omega, by omega, ?_⟩
    simp only [Gr.ofE, decide_eq_true_eq]
    rw [show ((min a.toNat b.toNat : Nat) : Int) = a from by omega, show ((max a.toNat b.toNat : Nat) : Int) = b from by omega]
    exact h
  · rintro ⟨u, v, rfl, rfl, hl, hk⟩
    simp only [Gr.ofE, decide_eq_true_eq] at hk
    rwa [show min u v = u from by omega, show max u v = v from by omega] at hk
theorem filled_nb {n : Nat} {E : List (Int × Int)} {T : Nat → List Int} (hr : Edgy n E) (hn : n ≤ 16777216) (h : Filled E [] n T) {i : Nat} (hi : i < n) : srt (T i) = up ((Gr.ofE n E).nb i) := by
  refine srt_eq (h i hi).1 (Gr.nb_sorted _ _) (fun x => ?_)
  rw [(h i hi).2]
  simp only [List.not_mem_nil, not_false_eq_true, and_true]
  have hG := ofE_ok hr hn
  have ht : ∀ a b : Int, (a, b) ∈ E → 0 ≤ a ∧ a < b ∧ b < n := fun a b h => hr _ h
  constructor
  · rintro (k | k)
    · have := ht _ _ k
      refine ⟨x.toNat, (Gr.mem_nb hG).2 ?_, by omega⟩
      simp only [Gr.ofE, decide_eq_true_eq]
      rw [show ((min i x.toNat : Nat) : Int) = i from by omega, show ((max i x.toNat : Nat) : Int) = x from by omega]
      exact k
    · have := ht _ _ k
      refine ⟨x.toNat, (Gr.mem_nb hG).2 ?_, by omega⟩
      simp only [Gr.ofE, decide_eq_true_eq]
      rw [show ((min i x.toNat : Nat) : Int) = x from by omega, show ((max i x.toNat : Nat) : Int) = i from by omega]
      exact k
  · rintro ⟨y, hy, rfl⟩
    have := (Gr.mem_nb hG).1 hy
    simp only [Gr.ofE, decide_eq_true_eq] at this
    have h2 := ht _ _ this
    rcases Nat.lt_trichotomy i y with h3 | h3 | h3
    · left
      rwa [show min i y = i from by omega, show max i y = y from by omega] at this
    · omega
    · right
      rwa [show min i y = y from by omega, show max i y = i from by omega] at this
theorem RowsAt.sorted {w w' : World} {base tb n i : Nat} {T : Nat → List Int} {vs : List Value} {x : Value} (h : RowsAt w base tb n T vs)
    (hx : vs[i]? = some x) (htb : tb < base) (hg : w.grownBy w' x.ownBlock) (hown : w'.ownsRow base 3 1 x (T i).length ((srt (T i)).map (Value.int .i64))) (hi : i < n) :
    RowsAt w' base tb n (fun k => if k = i then srt (T i) else T k) vs := by
  obtain ⟨h1, h2, h3, h4⟩ := h
  obtain ⟨x', e, hxo⟩ := h3 i hi
  rw [hx] at e
  cases e
  refine ⟨h1, (hg.block tb (Array.getElem?_eq_some_iff.1 h2).1 (fun e => by have := hxo.lt tb e.symm; omega)).trans h2, fun k hk => ?_, h4⟩
  by_cases hki : k = i
  · subst hki
    refine ⟨x, hx, ?_⟩
    simp only [if_true]
    have : (srt (T k)).length = (T k).length := by simp [srt]
    rw [this]
    exact hown
  · obtain ⟨z, hz, hzo⟩ := h3 k hk
    refine ⟨z, hz, ?_⟩
    simp only [if_neg hki]
    exact hzo.kept hg (h4 k i z x hki hz hx)
/-- The loop over the map. -/
structure OfInv (w : World) (n m gb tb r base : Nat) (E : List (Int × Int)) (wr : World) (L : List (Int × Int)) (T : Nat → List Int) : Prop where
  bel : Below w.heap.size w wr
  rng : Rng wr m r L
  gbk : wr.heap[gb]? = some (.cells #[.int .i64 (n : Int), .map (some m), .slice (some ⟨tb, 0, none⟩) n n] 102 (0, 0))
  sub : ∀ p ∈ L, p ∈ E
  le : base ≤ wr.heap.size
  rows : OwnRows wr base tb n T
  fill : Filled E L n T
theorem rows_start {w1 : World} {b base n : Nat} (hb : b < base) (h : w1.ownsRow b 22 1 (.slice (some ⟨b, 0, none⟩) n n) n (List.replicate n (.slice none 0 0))) : OwnRows w1 base b n (fun _ => []) := by
  rcases h.2 with ⟨h', _⟩ | ⟨g, cap, cur, h', _, hh, h1, h2, h3, h4⟩
  · cases h'
  · injection h' with e1 e2 e3
    injection e1 with e1
    injection e1 with e1
    subst e1
    subst e3
    refine ⟨List.replicate n (.slice none 0 0), by simp, ?_, fun i hi => ⟨.slice none 0 0, by simp [List.getElem?_replicate, hi], World.ownsRow_nil _ _ _ _⟩, fun i j x y _ hx _ => ?_⟩
    · rw [hh]
      have : cur.toList = List.replicate n (.slice none 0 0) := by rw [← h4, List.take_of_length_le (by simp [h3])]
      rw [← this]
    · left
      have := List.mem_of_getElem? hx
      rw [List.eq_of_mem_replicate this]
      rfl
end Go.Proofs.YthbojpaghbbnnaaDoor
namespace Go.Proofs.YthbojpaghbbnnaaDoor
open Go.RowKit Go.WideMaps Go.Maps
set_option linter.unusedVariables false
set_option linter.unusedSimpArgs false
set_option maxRecDepth 100000 in
set_option maxHeartbeats 4000000 in
theorem of_any (w : World) (n : Nat) (hn : n ≤ 16777216) (m lo : Nat) (E : List (Int × Int)) (hE : EMap w m E) (hr : Edgy n E) (hlo : lo ≤ m) :
    Calls Tryd.prog 70 #[.int .i64 (n : Int), .map (some m)] w fun e w' => Below w.heap.size w w' ∧ ∃ v, e = .returned v ∧ PG w' lo w'.heap.size v (Gr.ofE n E) := by
  have HE := Lib.hid hE
  have HR := Lib.hid hr
  clear hE hr
  have hm := HE.out.lt
  obtain ⟨i0, hi, hz0, hz1, hz2⟩ := info_parts infoInt
  have HI : Hid (Tryd.prog.info? 3 = some i0 ∧ i0.zero = some (.int .i64 0) ∧ i0.size = 1 ∧ i0.bytes = 8) := ⟨hi, hz0, hz1, hz2⟩
  clear hi hz0 hz1 hz2
  go_enter Tryd.func70, Tryd.ntmps70
  go_wp2_with (first
    | (at_make; refine mk_full (W := w) w.heap.size rfl (.tmp 11) (.tmp 11) 100 22 _ 24 rfl Tryd.underlying100 infoInts rfl (by decide) _ _ n rfl rfl rfl rfl (by omega) (Nat.le_refl _) ?_; intro w1 hown hgr)
    | (at_range; refine wpl_range rfl (.tmp 15) rfl m (w1.heap.size + 1) (by simp) rfl (HE.out.frame ((Below.heap_alloc _ _ _ (Nat.lt_of_lt_of_le hm hgr.size)).trans (hgr.block m hm (by simp)))) ?_; intro w2 hrg hg2 hs2))
  go_frame
  have hlt1 : w.heap.size < w1.heap.size := (hown.lt _ rfl).2
  go_loopg [6] E.length (fun k s wr => ∃ L T, Hid (L.length = k) ∧ OfInv w n m w1.heap.size w.heap.size (w1.heap.size + 1) (w1.heap.size + 2) E wr L T)
  case atStart =>
    refine ⟨E, fun _ => [], rfl, ?_, hrg, ?_, fun p hp => hp, by omega, ?_, filled_start E n⟩
    · exact (((Below.refl _ _).grown hgr (Nat.le_refl _) (by simp)).alloc hgr.size _).grown hg2 (by simp; omega) (by simp)
    · exact (hg2.block w1.heap.size (by simp) (by simp)).trans (heap_alloc_new _ _)
    · exact ((rows_start (base := w1.heap.size + 2) (by omega) hown).kept (World.grownBy_alloc _ _ none) (by simp) (by simp)).kept hg2 (by simp) (by simp)
  case round =>
    obtain ⟨L, T, HL, HV⟩ := hrel
    have hrg1 := HV.rng
    have hbs := HV.le
    have hbel := HV.bel
    have HV' := Lib.hid HV
    clear HV hrg hs2 hown
    go_wp2_with (at_next; refine wpl_next rfl (.tmp 16) rfl m (w1.heap.size + 1) rfl hrg1 ?_ ?_)
    · intro hL
      subst hL
      obtain ⟨wo, rfl⟩ : ∃ wo : World, wo = wr := ⟨_, rfl⟩
      have k2 := cell_of HV'.out.gbk 2
      have HF : Hid (Filled E [] n T) := HV'.out.fill
      have hbase := HV'.out.le
      go_wp2
      go_loopg [64] n (fun k s wx => ∃ q : Nat, k + q = n ∧ s = .int .i64 q ∧ Hid (Below w.heap.size w wx ∧ OwnRows wx (w1.heap.size + 2) w.heap.size n (fun j => if j < q then srt (T j) else T j) ∧ wx.heap[w1.heap.size]? = some (.cells #[.int .i64 (n : Int), .map (some m), .slice (some ⟨w.heap.size, 0, none⟩) n n] 102 (0, 0)) ∧ w1.heap.size + 2 ≤ wx.heap.size))
      case atStart =>
        refine ⟨0, rfl, rfl, HV'.out.bel, ?_, HV'.out.gbk, HV'.out.le⟩
        simpa using HV'.out.rows
      case round =>
        obtain ⟨q, hq, rfl, HX⟩ := hrel
        have HQ := Lib.hid hq
        clear hq k2
        by_cases hlt : q < n
        · obtain ⟨hb, ⟨vs, hR⟩, hg1, hle⟩ := HX.out
          obtain ⟨x, hx, hxo⟩ := hR.2.2.1 q hlt
          have t0 : wr.cell? ⟨w.heap.size, q, none⟩ = some x := by rw [cell_of hR.2.1 q]; simpa using hx
          have hlen : (T q).length < 4611686018427387904 := by have := HF.out.bound HR.out hlt; omega
          have hxo' : wr.ownsRow (w1.heap.size + 2) 3 1 x (T q).length ((T q).map (Value.int .i64)) := by simpa using hxo
          have HO := Lib.hid hxo'
          have HR' := Lib.hid hR
          have HX' := Lib.hid hx
          have HG := Lib.hid hg1
          have HB := Lib.hid hb
          clear hxo hxo' hR hx hg1 hb HX
          go_wp2_with (go_at_call 75; refine (Sort_own _ HO.out hlen).mono ?_; rintro e w' ⟨rfl, ho, hg⟩; have HO1 := Lib.hid ho; have HG1 := Lib.hid hg; clear ho hg)
          go_roundg (n - (q + 1))
          case measure => have := HQ.out; omega
          case rel =>
            have xb := HO.out.lt
            refine ⟨q + 1, by omega, by go_num, HB.out.grown HG1.out HB.out.size (fun c hc => by have := (xb c hc).1; omega), ?_, (HG1.out.block _ (by omega) (fun e => by have := (xb _ e.symm).1; omega)).trans HG.out, Nat.le_trans hle HG1.out.size⟩
            have h := HR'.out.sorted (i := q) (w' := w') HX'.out (by omega) HG1.out (by simpa using HO1.out) hlt
            refine ⟨vs, ?_⟩
            have e : (fun j => if j < q + 1 then srt (T j) else T j) = (fun k => if k = q then srt ((fun j => if j < q then srt (T j) else T j) q) else (fun j => if j < q then srt (T j) else T j) k) := by
              funext k
              by_cases h1 : k = q
              · subst h1; simp
              · by_cases h2 : k < q
                · simp [h1, h2, show k < q + 1 from by omega]
                · simp [h1, h2, show ¬ k < q + 1 from by omega]
            rw [e]
            exact h
        · have hqn : q = n := by have := HQ.out; omega
          obtain ⟨hb, ⟨vs, hR⟩, hg1, hle⟩ := HX.out
          have HR' := Lib.hid hR
          have HG := Lib.hid hg1
          have HB := Lib.hid hb
          clear hR hg1 hb HX
          go_wp2
          go_ret
          refine ⟨HB.out, _, rfl, ofE_ok HR.out hn, Nat.le_refl _, w1.heap.size, m, some ⟨w.heap.size, 0, none⟩, n, E, rfl, by omega, by omega, HG.out, hlo, by have := HB.out.size; omega, HE.out.frame (HB.out.block m hm), ofE_tells HR.out HE.out.nodup, ?_⟩
          have h := HR'.out.rows2 (lo := lo) (by omega) (by omega) hn
          obtain ⟨us, h1, h2⟩ := h
          refine ⟨us, h1, fun k hk => ?_⟩
          obtain ⟨x, hx, hxi⟩ := h2 k hk
          refine ⟨x, hx, ?_⟩
          have hk' : k < n := hk
          have e : (fun j => if j < q then srt (T j) else T j) k = up ((Gr.ofE n E).nb k) := by
            simp only [if_pos (show k < q from by omega)]
            exact filled_nb HR.out hn HF.out hk'
          rw [e] at hxi
          exact hxi
    · intro a b w3 hp hrg3 hg3 hs3 hen
      obtain ⟨hp0, hp1, hp2⟩ := HR.out (a, b) (HV'.out.sub _ hp)
      simp only at hp0 hp1 hp2
      obtain ⟨i, rfl⟩ := Int.eq_ofNat_of_zero_le hp0
      obtain ⟨j, rfl⟩ := Int.eq_ofNat_of_zero_le (Int.le_trans hp0 (Int.le_of_lt hp1))
      have hij : i < j := by omega
      have hjn : j < n := by omega
      have hin : i < n := by omega
      clear hp0 hp1 hp2
      obtain ⟨vs, R3'⟩ := HV'.out.rows.kept hg3 (by intro e; injection e; omega) (fun k e => by injection e; omega)
      have R3 := Lib.hid R3'
      clear R3'
      have G3 : Hid (w3.heap[w1.heap.size]? = some (.cells #[.int .i64 (n : Int), .map (some m), .slice (some ⟨w.heap.size, 0, none⟩) n n] 102 (0, 0))) := (hg3.block w1.heap.size (by omega) (by intro e; injection e; omega)).trans HV'.out.gbk
      have B3 : Hid (Below w.heap.size w w3) := hbel.grown hg3 hbel.size (fun k e => by injection e; omega)
      have HP := Lib.hid hp
      have H3 := Lib.hid hg3
      have HR3 := Lib.hid hrg3
      have b5 : w.heap.size < w3.heap.size := by omega
      have b6 : w1.heap.size < w3.heap.size := by omega
      have b7 : w1.heap.size + 2 ≤ w3.heap.size := by omega
      clear hp hg3 hs3 hrg3 hgr hg2 hrg1 hbs hbel
      unfold kv at hen ⊢
      go_wp2
      obtain ⟨W5, hW5⟩ : ∃ W, W = w3.alloc (.cells #[.int .i64 (i : Int), .int .i64 (j : Int)] 110) := ⟨_, rfl⟩
      rw [← hW5]
      have R5 : Hid (RowsAt W5 (w1.heap.size + 2) w.heap.size n T vs) := by rw [hW5]; exact R3.out.kept (World.grownBy_alloc _ _ none) (by simp) (by simp)
      have G5 : Hid (W5.heap[w1.heap.size]? = some (.cells #[.int .i64 (n : Int), .map (some m), .slice (some ⟨w.heap.size, 0, none⟩) n n] 102 (0, 0))) := by rw [hW5]; exact (Below.heap_alloc _ _ _ b6).trans G3.out
      have E5 : Hid (W5.heap[w3.heap.size]? = some (.cells #[.int .i64 (i : Int), .int .i64 (j : Int)] 110 (0, 0))) := by rw [hW5]; exact heap_alloc_new _ _
      have B5 : Hid (Below w.heap.size w W5) := by rw [hW5]; exact B3.out.alloc B3.out.size _
      have S5 : Hid (Rng W5 m (w1.heap.size + 1) (less L ((i : Int), (j : Int)))) := by
        have h := HR3.out
        rw [hW5]
        exact h.frame (Below.heap_alloc _ _ _ h.lt.1) (Below.heap_alloc _ _ _ h.lt.2)
      have b8 : W5.heap.size = w3.heap.size + 1 := by rw [hW5]; simp
      have H8 := Lib.hid b8
      have b9 : w3.heap.size < W5.heap.size := by omega
      clear hW5 b8
      -- row i gets j
      obtain ⟨x0, x0x, x0o⟩ := R5.out.2.2.1 i (by omega)
      have x0b := x0o.lt
      have x0l : ∀ c, x0.ownBlock = some c → c < w3.heap.size := by
        obtain ⟨y, hy, hyo⟩ := R3.out.2.2.1 i (by omega)
        have : some y = some x0 := by rw [← hy, ← x0x]
        cases this
        exact fun c hc => (hyo.lt c hc).2
      have q0g : some w1.heap.size ≠ x0.ownBlock := fun e => by have := x0b _ e.symm; omega
      have q0t : some w.heap.size ≠ x0.ownBlock := fun e => by have := x0b _ e.symm; omega
      have q0e : some w3.heap.size ≠ x0.ownBlock := fun e => by have := x0l _ e.symm; omega
      have k0 := cell_of G5.out 2
      have e0 := cell_of E5.out 0
      have e1 := cell_of E5.out 1
      have t0 : W5.cell? ⟨w.heap.size, i, none⟩ = some x0 := by rw [cell_of R5.out.2.1 i]; simpa using x0x
      have f0 := free_of R5.out.2.1 i
      have wl : w.heap.size < W5.heap.size := by omega
      have wl1 : w1.heap.size < W5.heap.size := by omega
      have hln : (T i).length ≤ 16777216 := (by have := HV'.out.fill.bound HR.out hin; omega)
      have XO0 := Lib.hid x0o
      have XX0 := Lib.hid x0x
      have QG0 := Lib.hid q0g
      have QT0 := Lib.hid q0t
      have QE0 := Lib.hid q0e
      clear x0o x0x x0b x0l q0g q0t q0e
      refine region_T (by kernel_rfl) (fun w' => w'.cell? ⟨w1.heap.size, 2, none⟩ = some (.slice (some ⟨w.heap.size, 0, none⟩) n n) ∧ w'.cell? ⟨w3.heap.size, 0, none⟩ = some (.int .i64 (i : Int)) ∧ w'.cell? ⟨w3.heap.size, 1, none⟩ = some (.int .i64 (j : Int)) ∧ w'.cell? ⟨w.heap.size, i, none⟩ = some x0) 19 ⟨k0, e0, e1, t0⟩ (fun HS => ?_)
      change anyT _ _ _ _ _ _ 20 _ _ _
      refine takeT (i := 0) (v := ?_) rfl rfl (by kernel_rfl) (fun _ _ _ h => h) rfl ?_ HS ?_
      rotate_left
      · intro w' hS'
        obtain ⟨s0, s1, s2, s3⟩ := hS'
        go_simp
        rfl
      rotate_left
      go_frame
      refine takeT (i := 1) (v := ?_) rfl rfl (by kernel_rfl) (fun _ _ _ h => h) rfl ?_ HS ?_
      rotate_left
      · intro w' hS'
        obtain ⟨s0, s1, s2, s3⟩ := hS'
        go_simp
        rfl
      rotate_left
      go_frame
      refine takeT (i := 2) (v := ?_) rfl rfl (by kernel_rfl) (fun _ _ _ h => h) rfl ?_ HS ?_
      rotate_left
      · intro w' hS'
        obtain ⟨s0, s1, s2, s3⟩ := hS'
        go_simp
        rfl
      rotate_left
      go_frame
      refine takeT (i := 3) (v := ?_) rfl rfl (by kernel_rfl) (fun _ _ _ h => h) rfl ?_ HS ?_
      rotate_left
      · intro w' hS'
        obtain ⟨s0, s1, s2, s3⟩ := hS'
        go_simp
        rfl
      rotate_left
      go_frame
      refine takeT (i := 4) (v := ?_) rfl rfl (by kernel_rfl) (fun _ _ _ h => h) rfl ?_ HS ?_
      rotate_left
      · intro w' hS'
        obtain ⟨s0, s1, s2, s3⟩ := hS'
        go_simp
        rfl
      rotate_left
      go_frame
      refine takeT (i := 5) (v := ?_) rfl rfl (by kernel_rfl) (fun _ _ _ h => h) rfl ?_ HS ?_
      rotate_left
      · intro w' hS'
        obtain ⟨s0, s1, s2, s3⟩ := hS'
        go_simp
        rfl
      rotate_left
      go_frame
      refine takeT (i := 6) (v := ?_) rfl rfl (by kernel_rfl) (fun _ _ _ h => h) rfl ?_ HS ?_
      rotate_left
      · intro w' hS'
        obtain ⟨s0, s1, s2, s3⟩ := hS'
        go_simp
        rfl
      rotate_left
      go_frame
      refine takeT (i := 7) (v := ?_) rfl rfl (by kernel_rfl) (fun _ _ _ h => h) rfl ?_ HS ?_
      rotate_left
      · intro w' hS'
        obtain ⟨s0, s1, s2, s3⟩ := hS'
        go_simp
        rfl
      rotate_left
      go_frame
      refine takeT (i := 8) (v := ?_) rfl rfl (by kernel_rfl) (fun _ _ _ h => h) rfl ?_ HS ?_
      rotate_left
      · intro w' hS'
        obtain ⟨s0, s1, s2, s3⟩ := hS'
        go_simp
        rfl
      rotate_left
      go_frame
      refine takeT (i := 9) (v := ?_) rfl rfl (by kernel_rfl) (fun _ _ _ h => h) rfl ?_ HS ?_
      rotate_left
      · intro w' hS'
        obtain ⟨s0, s1, s2, s3⟩ := hS'
        go_simp
        rfl
      rotate_left
      go_frame
      refine takeT (i := 10) (v := ?_) rfl rfl (by kernel_rfl) (fun _ _ _ h => h) rfl ?_ HS ?_
      rotate_left
      · intro w' hS'
        obtain ⟨s0, s1, s2, s3⟩ := hS'
        go_simp
        rfl
      rotate_left
      go_frame
      refine takeT (i := 11) (v := ?_) rfl rfl (by kernel_rfl) (fun _ _ _ h => h) rfl ?_ HS ?_
      rotate_left
      · intro w' hS'
        obtain ⟨s0, s1, s2, s3⟩ := hS'
        go_simp
        rfl
      rotate_left
      go_frame
      refine takeT (i := 12) (v := ?_) rfl rfl (by kernel_rfl) (fun _ _ _ h => h) rfl ?_ HS ?_
      rotate_left
      · intro w' hS'
        obtain ⟨s0, s1, s2, s3⟩ := hS'
        go_simp
        rfl
      rotate_left
      go_frame
      refine takeT (i := 13) (v := ?_) rfl rfl (by kernel_rfl) (fun _ _ _ h => h) rfl ?_ HS ?_
      rotate_left
      · intro w' hS'
        obtain ⟨s0, s1, s2, s3⟩ := hS'
        go_simp
        rfl
      rotate_left
      go_frame
      refine takeT (i := 14) (v := ?_) rfl rfl (by kernel_rfl) (fun _ _ _ h => h) rfl ?_ HS ?_
      rotate_left
      · intro w' hS'
        obtain ⟨s0, s1, s2, s3⟩ := hS'
        go_simp
        rfl
      rotate_left
      go_frame
      refine takeT (i := 15) (v := ?_) rfl rfl (by kernel_rfl) (fun _ _ _ h => h) rfl ?_ HS ?_
      rotate_left
      · intro w' hS'
        obtain ⟨s0, s1, s2, s3⟩ := hS'
        go_simp
        rfl
      rotate_left
      go_frame
      refine oneT (i := 16) rfl (by kernel_rfl) (fun K hK => ?_)
      go_simp
      refine hK.out _ _ (fun _ => ?_) ?_
      · exact ⟨(World.cell?_of_block (w := W5) (Below.heap_alloc W5 _ _ wl1)).trans k0, (World.cell?_of_block (w := W5) (Below.heap_alloc W5 _ _ b9)).trans e0, (World.cell?_of_block (w := W5) (Below.heap_alloc W5 _ _ b9)).trans e1, (World.cell?_of_block (w := W5) (Below.heap_alloc W5 _ _ wl)).trans t0⟩
      clear hK K
      refine oneT (i := 17) rfl (by kernel_rfl) (fun K hK => ?_)
      refine step_append_lies _ (by rfl) (.tmp 34) (.tmp 37) 22 (by rfl) (w1.heap.size + 2) 3 i0 (.int .i64 0) 1 8 Tryd.underlying22 HI.out.1 HI.out.2.1 HI.out.2.2.1 HI.out.2.2.2 rfl (by decide) x0 _ _ (by rfl) (XO0.out.alloc _).drew ⟨W5.heap.size, 0, none⟩ 1 1 [.int .i64 (j : Int)] (by rfl) rfl (World.news_of_block (cs := #[.int .i64 (j : Int)]) (t := 3) (fr := (0, 0)) (heap_alloc_new W5 _)) (by simp [Value.oneCell']) (by decide) (by unfold maxLen; omega) (by omega) (by simp; omega) (W5.heap.size + 1) (by simp) ?_
      intro g0 cap0 V0 hown0 hg0 hat0 hlt0
      have k0' := far_cell hg0 k0 QG0.out
      have e0' := far_cell hg0 e0 QE0.out
      have e1' := far_cell hg0 e1 QE0.out
      have t0' := far_cell hg0 t0 QT0.out
      have f0' := (far_frozen hg0 (a := ⟨w.heap.size, i, none⟩) wl QT0.out).trans f0
      refine hK.out _ _ (fun _ => ⟨k0', e0', e1', t0'⟩) ?_
      clear hK K
      have HS0 : (fun w' : World => w'.cell? ⟨w1.heap.size, 2, none⟩ = some (.slice (some ⟨w.heap.size, 0, none⟩) n n) ∧ w'.cell? ⟨w3.heap.size, 0, none⟩ = some (.int .i64 (i : Int)) ∧ w'.cell? ⟨w3.heap.size, 1, none⟩ = some (.int .i64 (j : Int)) ∧ w'.cell? ⟨w.heap.size, i, none⟩ = some x0) V0 := ⟨k0', e0', e1', t0'⟩
      go_frame
      refine takeT (i := 18) (v := ?_) rfl rfl (by kernel_rfl) (fun _ _ _ h => h) rfl ?_ HS0 ?_
      rotate_left
      · intro w' hS'
        obtain ⟨s0, s1, s2, s3⟩ := hS'
        go_simp
        rfl
      rotate_left
      go_frame
      refine oneT (i := 19) rfl (by kernel_rfl) (fun K hK => ?_)
      go_simp
      refine hK.out _ _ (fun h => absurd rfl h) ?_
      clear hK K
      refine doneT (by kernel_rfl) ?_ 0
      obtain ⟨W7, hW7⟩ : ∃ W, W = V0.setCell ⟨w.heap.size, i, none⟩ (.slice (some ⟨g0, 0, none⟩) ((T i).length + 1) cap0) := ⟨_, rfl⟩
      rw [← hW7]
      have R7 := Lib.hid (R5.out.app (y := (j : Int)) (by omega) XX0.out (by omega) (by omega) hg0 hown0 hat0)
      rw [← hW7] at R7
      have fb : ∀ c, c < W5.heap.size → some c ≠ x0.ownBlock → c ≠ w.heap.size → W7.heap[c]? = W5.heap[c]? := fun c h1 h2 h3 => by rw [hW7]; exact (Below.heap_setCell _ _ _ _ h3).trans (far_block hg0 h1 h2)
      have G7 : Hid (W7.heap[w1.heap.size]? = some (.cells #[.int .i64 (n : Int), .map (some m), .slice (some ⟨w.heap.size, 0, none⟩) n n] 102 (0, 0))) := (fb _ wl1 QG0.out (by omega)).trans G5.out
      have E7 : Hid (W7.heap[w3.heap.size]? = some (.cells #[.int .i64 (i : Int), .int .i64 (j : Int)] 110 (0, 0))) := (fb _ b9 QE0.out (by omega)).trans E5.out
      have hvs : W5.heap.size ≤ V0.heap.size := by have := hg0.size; simp at this; omega
      have B7 : Hid (Below w.heap.size w W7) := by
        rw [hW7]
        exact ((((B5.out.alloc B5.out.size _).drew).grown hg0 (by simp; omega) (fun c hc => by have := (XO0.out.lt c hc).1; omega))).setCell (by simp) _
      have S7 : Hid (Rng W7 m (w1.heap.size + 1) (less L ((i : Int), (j : Int)))) := by
        have h := S5.out
        exact h.frame (fb _ h.lt.1 (fun e => by have := (XO0.out.lt _ e.symm).1; omega) (by omega)) (fb _ h.lt.2 (fun e => by have := (XO0.out.lt _ e.symm).1; omega) (by omega))
      have hsz7 : W5.heap.size ≤ W7.heap.size := by rw [hW7, size_setCell]; exact hvs
      have b9 : w3.heap.size < W7.heap.size := by omega
      clear hW7 fb k0 e0 e1 t0 f0 k0' e0' e1' t0' f0' wl wl1 hvs hg0 hown0 hat0 hlt0 HS HS0 hln
      obtain ⟨T7, hT7⟩ : ∃ T7 : Nat → List Int, T7 = fun k => if k = i then T i ++ [(j : Int)] else T k := ⟨_, rfl⟩
      rw [← hT7] at R7
      have HT7 := Lib.hid hT7
      clear hT7
      go_wp2
      -- row j gets i
      obtain ⟨x1, x1x, x1o⟩ := R7.out.2.2.1 j (by omega)
      have x1b := x1o.lt
      have x1l : ∀ c, x1.ownBlock = some c → c < w3.heap.size := by
        obtain ⟨y, hy, hyo⟩ := R3.out.2.2.1 j (by omega)
        have : some y = some x1 := by rw [← hy, ← x1x, List.getElem?_set_ne (by omega)]
        cases this
        exact fun c hc => (hyo.lt c hc).2
      have q1g : some w1.heap.size ≠ x1.ownBlock := fun e => by have := x1b _ e.symm; omega
      have q1t : some w.heap.size ≠ x1.ownBlock := fun e => by have := x1b _ e.symm; omega
      have q1e : some w3.heap.size ≠ x1.ownBlock := fun e => by have := x1l _ e.symm; omega
      have k0 := cell_of G7.out 2
      have e0 := cell_of E7.out 0
      have e1 := cell_of E7.out 1
      have t0 : W7.cell? ⟨w.heap.size, j, none⟩ = some x1 := by rw [cell_of R7.out.2.1 j]; simpa using x1x
      have f0 := free_of R7.out.2.1 j
      have wl : w.heap.size < W7.heap.size := by omega
      have wl1 : w1.heap.size < W7.heap.size := by omega
      have hln : (T7 j).length ≤ 16777216 := (by have := HV'.out.fill.bound HR.out hjn; rw [HT7.out]; simp only [if_neg (show ¬ j = i from by omega)]; omega)
      have XO1 := Lib.hid x1o
      have XX1 := Lib.hid x1x
      have QG1 := Lib.hid q1g
      have QT1 := Lib.hid q1t
      have QE1 := Lib.hid q1e
      clear x1o x1x x1b x1l q1g q1t q1e
      refine region_T (by kernel_rfl) (fun w' => w'.cell? ⟨w1.heap.size, 2, none⟩ = some (.slice (some ⟨w.heap.size, 0, none⟩) n n) ∧ w'.cell? ⟨w3.heap.size, 0, none⟩ = some (.int .i64 (i : Int)) ∧ w'.cell? ⟨w3.heap.size, 1, none⟩ = some (.int .i64 (j : Int)) ∧ w'.cell? ⟨w.heap.size, j, none⟩ = some x1) 19 ⟨k0, e0, e1, t0⟩ (fun HS => ?_)
      change anyT _ _ _ _ _ _ 20 _ _ _
      refine takeT (i := 0) (v := ?_) rfl rfl (by kernel_rfl) (fun _ _ _ h => h) rfl ?_ HS ?_
      rotate_left
      · intro w' hS'
        obtain ⟨s0, s1, s2, s3⟩ := hS'
        go_simp
        rfl
      rotate_left
      go_frame
      refine takeT (i := 1) (v := ?_) rfl rfl (by kernel_rfl) (fun _ _ _ h => h) rfl ?_ HS ?_
      rotate_left
      · intro w' hS'
        obtain ⟨s0, s1, s2, s3⟩ := hS'
        go_simp
        rfl
      rotate_left
      go_frame
      refine takeT (i := 2) (v := ?_) rfl rfl (by kernel_rfl) (fun _ _ _ h => h) rfl ?_ HS ?_
      rotate_left
      · intro w' hS'
        obtain ⟨s0, s1, s2, s3⟩ := hS'
        go_simp
        rfl
      rotate_left
      go_frame
      refine takeT (i := 3) (v := ?_) rfl rfl (by kernel_rfl) (fun _ _ _ h => h) rfl ?_ HS ?_
      rotate_left
      · intro w' hS'
        obtain ⟨s0, s1, s2, s3⟩ := hS'
        go_simp
        rfl
      rotate_left
      go_frame
      refine takeT (i := 4) (v := ?_) rfl rfl (by kernel_rfl) (fun _ _ _ h => h) rfl ?_ HS ?_
      rotate_left
      · intro w' hS'
        obtain ⟨s0, s1, s2, s3⟩ := hS'
        go_simp
        rfl
      rotate_left
      go_frame
      refine takeT (i := 5) (v := ?_) rfl rfl (by kernel_rfl) (fun _ _ _ h => h) rfl ?_ HS ?_
      rotate_left
      · intro w' hS'
        obtain ⟨s0, s1, s2, s3⟩ := hS'
        go_simp
        rfl
      rotate_left
      go_frame
      refine takeT (i := 6) (v := ?_) rfl rfl (by kernel_rfl) (fun _ _ _ h => h) rfl ?_ HS ?_
      rotate_left
      · intro w' hS'
        obtain ⟨s0, s1, s2, s3⟩ := hS'
        go_simp
        rfl
      rotate_left
      go_frame
      refine takeT (i := 7) (v := ?_) rfl rfl (by kernel_rfl) (fun _ _ _ h => h) rfl ?_ HS ?_
      rotate_left
      · intro w' hS'
        obtain ⟨s0, s1, s2, s3⟩ := hS'
        go_simp
        rfl
      rotate_left
      go_frame
      refine takeT (i := 8) (v := ?_) rfl rfl (by kernel_rfl) (fun _ _ _ h => h) rfl ?_ HS ?_
      rotate_left
      · intro w' hS'
        obtain ⟨s0, s1, s2, s3⟩ := hS'
        go_simp
        rfl
      rotate_left
      go_frame
      refine takeT (i := 9) (v := ?_) rfl rfl (by kernel_rfl) (fun _ _ _ h => h) rfl ?_ HS ?_
      rotate_left
      · intro w' hS'
        obtain ⟨s0, s1, s2, s3⟩ := hS'
        go_simp
        rfl
      rotate_left
      go_frame
      refine takeT (i := 10) (v := ?_) rfl rfl (by kernel_rfl) (fun _ _ _ h => h) rfl ?_ HS ?_
      rotate_left
      · intro w' hS'
        obtain ⟨s0, s1, s2, s3⟩ := hS'
        go_simp
        rfl
      rotate_left
      go_frame
      refine takeT (i := 11) (v := ?_) rfl rfl (by kernel_rfl) (fun _ _ _ h => h) rfl ?_ HS ?_
      rotate_left
      · intro w' hS'
        obtain ⟨s0, s1, s2, s3⟩ := hS'
        go_simp
        rfl
      rotate_left
      go_frame
      refine takeT (i := 12) (v := ?_) rfl rfl (by kernel_rfl) (fun _ _ _ h => h) rfl ?_ HS ?_
      rotate_left
      · intro w' hS'
        obtain ⟨s0, s1, s2, s3⟩ := hS'
        go_simp
        rfl
      rotate_left
      go_frame
      refine takeT (i := 13) (v := ?_) rfl rfl (by kernel_rfl) (fun _ _ _ h => h) rfl ?_ HS ?_
      rotate_left
      · intro w' hS'
        obtain ⟨s0, s1, s2, s3⟩ := hS'
        go_simp
        rfl
      rotate_left
      go_frame
      refine takeT (i := 14) (v := ?_) rfl rfl (by kernel_rfl) (fun _ _ _ h => h) rfl ?_ HS ?_
      rotate_left
      · intro w' hS'
        obtain ⟨s0, s1, s2, s3⟩ := hS'
        go_simp
        rfl
      rotate_left
      go_frame
      refine takeT (i := 15) (v := ?_) rfl rfl (by kernel_rfl) (fun _ _ _ h => h) rfl ?_ HS ?_
      rotate_left
      · intro w' hS'
        obtain ⟨s0, s1, s2, s3⟩ := hS'
        go_simp
        rfl
      rotate_left
      go_frame
      refine oneT (i := 16) rfl (by kernel_rfl) (fun K hK => ?_)
      go_simp
      refine hK.out _ _ (fun _ => ?_) ?_
      · exact ⟨(World.cell?_of_block (w := W7) (Below.heap_alloc W7 _ _ wl1)).trans k0, (World.cell?_of_block (w := W7) (Below.heap_alloc W7 _ _ b9)).trans e0, (World.cell?_of_block (w := W7) (Below.heap_alloc W7 _ _ b9)).trans e1, (World.cell?_of_block (w := W7) (Below.heap_alloc W7 _ _ wl)).trans t0⟩
      clear hK K
      refine oneT (i := 17) rfl (by kernel_rfl) (fun K hK => ?_)
      refine step_append_lies _ (by rfl) (.tmp 53) (.tmp 56) 22 (by rfl) (w1.heap.size + 2) 3 i0 (.int .i64 0) 1 8 Tryd.underlying22 HI.out.1 HI.out.2.1 HI.out.2.2.1 HI.out.2.2.2 rfl (by decide) x1 _ _ (by rfl) (XO1.out.alloc _).drew ⟨W7.heap.size, 0, none⟩ 1 1 [.int .i64 (i : Int)] (by rfl) rfl (World.news_of_block (cs := #[.int .i64 (i : Int)]) (t := 3) (fr := (0, 0)) (heap_alloc_new W7 _)) (by simp [Value.oneCell']) (by decide) (by unfold maxLen; omega) (by omega) (by simp; omega) (W7.heap.size + 1) (by simp) ?_
      intro g1 cap1 V1 hown1 hg1 hat1 hlt1
      have k0' := far_cell hg1 k0 QG1.out
      have e0' := far_cell hg1 e0 QE1.out
      have e1' := far_cell hg1 e1 QE1.out
      have t0' := far_cell hg1 t0 QT1.out
      have f0' := (far_frozen hg1 (a := ⟨w.heap.size, j, none⟩) wl QT1.out).trans f0
      refine hK.out _ _ (fun _ => ⟨k0', e0', e1', t0'⟩) ?_
      clear hK K
      have HS1 : (fun w' : World => w'.cell? ⟨w1.heap.size, 2, none⟩ = some (.slice (some ⟨w.heap.size, 0, none⟩) n n) ∧ w'.cell? ⟨w3.heap.size, 0, none⟩ = some (.int .i64 (i : Int)) ∧ w'.cell? ⟨w3.heap.size, 1, none⟩ = some (.int .i64 (j : Int)) ∧ w'.cell? ⟨w.heap.size, j, none⟩ = some x1) V1 := ⟨k0', e0', e1', t0'⟩
      go_frame
      refine takeT (i := 18) (v := ?_) rfl rfl (by kernel_rfl) (fun _ _ _ h => h) rfl ?_ HS1 ?_
      rotate_left
      · intro w' hS'
        obtain ⟨s0, s1, s2, s3⟩ := hS'
        go_simp
        rfl
      rotate_left
      go_frame
      refine oneT (i := 19) rfl (by kernel_rfl) (fun K hK => ?_)
      go_simp
      refine hK.out _ _ (fun h => absurd rfl h) ?_
      clear hK K
      refine doneT (by kernel_rfl) ?_ 0
      obtain ⟨W9, hW9⟩ : ∃ W, W = V1.setCell ⟨w.heap.size, j, none⟩ (.slice (some ⟨g1, 0, none⟩) ((T7 j).length + 1) cap1) := ⟨_, rfl⟩
      rw [← hW9]
      have R9 := Lib.hid (R7.out.app (y := (i : Int)) hjn XX1.out (by omega) (by omega) hg1 hown1 hat1)
      rw [← hW9] at R9
      have fb : ∀ c, c < W7.heap.size → some c ≠ x1.ownBlock → c ≠ w.heap.size → W9.heap[c]? = W7.heap[c]? := fun c h1 h2 h3 => by rw [hW9]; exact (Below.heap_setCell _ _ _ _ h3).trans (far_block hg1 h1 h2)
      have G9 : Hid (W9.heap[w1.heap.size]? = some (.cells #[.int .i64 (n : Int), .map (some m), .slice (some ⟨w.heap.size, 0, none⟩) n n] 102 (0, 0))) := (fb _ wl1 QG1.out (by omega)).trans G7.out
      have E9 : Hid (W9.heap[w3.heap.size]? = some (.cells #[.int .i64 (i : Int), .int .i64 (j : Int)] 110 (0, 0))) := (fb _ b9 QE1.out (by omega)).trans E7.out
      have hvs : W7.heap.size ≤ V1.heap.size := by have := hg1.size; simp at this; omega
      have B9 : Hid (Below w.heap.size w W9) := by
        rw [hW9]
        exact ((((B7.out.alloc B7.out.size _).drew).grown hg1 (by simp; omega) (fun c hc => by have := (XO1.out.lt c hc).1; omega))).setCell (by simp) _
      have S9 : Hid (Rng W9 m (w1.heap.size + 1) (less L ((i : Int), (j : Int)))) := by
        have h := S7.out
        exact h.frame (fb _ h.lt.1 (fun e => by have := (XO1.out.lt _ e.symm).1; omega) (by omega)) (fb _ h.lt.2 (fun e => by have := (XO1.out.lt _ e.symm).1; omega) (by omega))
      have hsz9 : W7.heap.size ≤ W9.heap.size := by rw [hW9, size_setCell]; exact hvs
      have b9 : w3.heap.size < W9.heap.size := by omega
      clear hW9 fb k0 e0 e1 t0 f0 k0' e0' e1' t0' f0' wl wl1 hvs hg1 hown1 hat1 hlt1 HS HS1 hln
      go_wp2
      go_roundg (less L ((i : Int), (j : Int))).length
      case measure => have := less_lt HP.out; have := HL.out; omega
      case rel =>
        refine ⟨_, _, rfl, ⟨B9.out, S9.out, G9.out, fun p hp => HV'.out.sub p (mem_less.1 hp).1, by omega, ⟨_, R9.out⟩, ?_⟩⟩
        have := HV'.out.fill.step HR.out hij hjn HP.out HV'.out.sub
        rw [HT7.out]
        exact this
end Go.Proofs.YthbojpaghbbnnaaDoor
namespace Go.Proofs.YthbojpaghbbnnaaDoor
open Go.RowKit Go.WideMaps Go.Maps
set_option linter.unusedVariables false
set_option linter.unusedSimpArgs false
theorem is_yes (v n : Int) (w : World) (h : 0 ≤ v ∧ v < n) : Calls Tryd.prog 68 #[.int .i64 v, .int .i64 n] w fun e w' => e = .returned (.bool true) ∧ w = w' :=
  (is_any v n w).mono fun e w' ⟨h1, h2⟩ => ⟨by rw [h1]; simp [h], h2⟩
theorem is_no (v n : Int) (w : World) (h : ¬ (0 ≤ v ∧ v < n)) : Calls Tryd.prog 68 #[.int .i64 v, .int .i64 n] w fun e w' => e = .returned (.bool false) ∧ w = w' :=
  (is_any v n w).mono fun e w' ⟨h1, h2⟩ => ⟨by
    rw [h1]
    have : (decide (0 ≤ v) && decide (v < n)) = false := by simp; omega
    rw [this], h2⟩
def okP (n : Nat) (p : Int × Int) : Bool := decide (0 ≤ p.1) && decide (p.1 < n) && decide (0 ≤ p.2) && decide (p.2 < n)
theorem okP_iff {n : Nat} {p : Int × Int} : okP n p = true ↔ (0 ≤ p.1 ∧ p.1 < n) ∧ 0 ≤ p.2 ∧ p.2 < n := by simp [okP]; omega
/-- The edges that pairs make, as keys. -/
def stepE (E : List (Int × Int)) (p : Int × Int) : List (Int × Int) := if p.1 = p.2 then E else addE E (min p.1 p.2, max p.1 p.2)
def mkE (ps : List (Int × Int)) : List (Int × Int) := ps.foldl stepE []
theorem mkE_snoc (ps : List (Int × Int)) (p : Int × Int) : mkE (ps ++ [p]) = stepE (mkE ps) p := by simp [mkE, List.foldl_append]
theorem mem_addE {E : List (Int × Int)} {p q : Int × Int} : q ∈ addE E p ↔ q ∈ E ∨ q = p := by
  unfold addE
  split
  · rename_i h
    exact ⟨.inl, fun k => k.elim id (fun e => e ▸ h)⟩
  · simp
theorem mem_mkE (ps : List (Int × Int)) (q : Int × Int) : q ∈ mkE ps ↔ ∃ p ∈ ps, p.1 ≠ p.2 ∧ q = (min p.1 p.2, max p.1 p.2) := by
  suffices h : ∀ (ps : List (Int × Int)) (E : List (Int × Int)), q ∈ ps.foldl stepE E ↔ q ∈ E ∨ ∃ p ∈ ps, p.1 ≠ p.2 ∧ q = (min p.1 p.2, max p.1 p.2) by
    rw [mkE, h]; simp
  intro ps
  induction ps with
  | nil => intro E; simp
  | cons p ps ih =>
    intro E
    rw [List.foldl_cons, ih]
    simp only [stepE]
    by_cases e : p.1 = p.2
    · simp [e]
    · rw [if_neg e, mem_addE]
      simp only [List.mem_cons, exists_eq_or_imp, ne_eq, e, not_false_eq_true, true_and]
      rw [or_assoc]
/-- The graph that pairs make. -/
def Gr.ofPairs (n : Nat) (ps : List (Int × Int)) : Gr := ⟨n, fun u v => decide (u ≠ v) && ps.any (fun p => (decide (p.1 = u) && decide (p.2 = v)) || (decide (p.1 = v) && decide (p.2 = u)))⟩
theorem ofE_mkE (n : Nat) (ps : List (Int × Int)) : Gr.ofE n (mkE ps) = Gr.ofPairs n ps := by
  unfold Gr.ofE Gr.ofPairs
  congr 1
  funext u v
  rw [Bool.eq_iff_iff, decide_eq_true_eq, mem_mkE]
  simp only [Bool.and_eq_true, decide_eq_true_eq, List.any_eq_true, Bool.or_eq_true, Prod.mk.injEq, ne_eq]
  constructor
  · rintro ⟨p, hp, hne, e1, e2⟩
    refine ⟨by omega, p, hp, by omega⟩
  · rintro ⟨hne, p, hp, h⟩
    exact ⟨p, hp, by omega, by omega, by omega⟩
theorem edgy_mkE {n : Nat} {ps : List (Int × Int)} (h : ∀ p ∈ ps, okP n p = true) : Edgy n (mkE ps) := by
  intro q hq
  obtain ⟨p, hp, hne, rfl⟩ := (mem_mkE ps q).1 hq
  have := okP_iff.1 (h p hp)
  simp only
  omega
set_option maxRecDepth 100000 in
set_option maxHeartbeats 4000000 in
theorem Make_out (w : World) (n : Int) (v : Value) (h : n < 0 ∨ 16777216 < n) :
    Calls Tryd.prog 51 #[.int .i64 n, v] w fun e w' => e = .returned (.tuple #[.pointer none, .int .i64 41]) ∧ Below w.heap.size w w' := by
  rcases h with h | h
  · go_enter Tryd.func51, Tryd.ntmps51
    go_wp2
    go_ret2
    exact ⟨rfl, Below.refl _ _⟩
  · have h' : 0 ≤ n := by omega
    go_enter Tryd.func51, Tryd.ntmps51
    go_wp2
    go_ret2
    exact ⟨rfl, Below.refl _ _⟩
def MakeInv (w wr : World) (ps : List (Int × Int)) (n k : Nat) : Prop := Below w.heap.size w wr ∧ EMap wr w.heap.size (mkE (ps.take k)) ∧ ∀ p ∈ ps.take k, okP n p = true
set_option maxRecDepth 100000 in
set_option maxHeartbeats 4000000 in
theorem Make_in (w : World) (n : Nat) (hn : n ≤ 16777216) {lo hi : Nat} {v : Value} {ps : List (Int × Int)} (hv : Prs w lo hi v ps) :
    Calls Tryd.prog 51 #[.int .i64 (n : Int), v] w fun e w' => Below w.heap.size w w' ∧
      ((∀ p ∈ ps, okP n p = true) → ∃ g, e = .returned (.tuple #[g, .int .i64 0]) ∧ PG w' w.heap.size w'.heap.size g (Gr.ofPairs n ps)) ∧
      ((∃ p ∈ ps, okP n p = false) → e = .returned (.tuple #[.pointer none, .int .i64 42])) := by
  obtain ⟨hl, A, c, rfl⟩ := hv.form
  have hmm := @run_makeMap Tryd.prog
  go_enter Tryd.func51, Tryd.ntmps51
  go_wp2
  go_loopg [18] ps.length (fun g s wr => ∃ k : Nat, g + k = ps.length ∧ s = .int .i64 k ∧ Hid (MakeInv w wr ps n k))
  case atStart => exact ⟨0, rfl, rfl, (Below.refl _ _).alloc (Nat.le_refl _) _, EMap.made w, by simp⟩
  case round =>
    clear hmm
    obtain ⟨k, hk, rfl, HI⟩ := hrel
    have HK := Lib.hid hk
    clear hk
    by_cases hlt : k < ps.length
    · have hpv := hv.at_ HI.out.1
      obtain ⟨b, off, p, rfl, _, _, hc, X⟩ := hpv.get encP_len k hlt
      have c0 := hc 0 (by omega)
      have c1 := hc 1 (by omega)
      obtain ⟨x, y⟩ := p
      simp only [encP, Nat.add_zero, List.getElem?_cons_zero, List.getElem?_cons_succ] at c0 c1
      clear hc hpv
      have hst : mkE (ps.take (k + 1)) = stepE (mkE (ps.take k)) (x, y) := by rw [take_snoc' X.out, mkE_snoc]
      have HST := Lib.hid hst
      have hm := HI.out.2.1.lt
      clear hst
      by_cases hx : 0 ≤ x ∧ x < n
      · by_cases hy : 0 ≤ y ∧ y < n
        · by_cases hxy : x = y
          · subst hxy
            go_wp2_with (go_at_call 68; refine (is_yes _ _ _ (by omega)).mono ?_; rintro e w' ⟨rfl, rfl⟩)
            go_roundg (ps.length - (k + 1))
            case measure => have := HK.out; omega
            case rel =>
              refine ⟨k + 1, by omega, by go_num, HI.out.1.alloc HI.out.1.size _, ?_, ?_⟩
              · rw [HST.out, stepE, if_pos rfl]
                exact HI.out.2.1.frame (Below.heap_alloc _ _ _ hm)
              · intro p hp
                rw [take_snoc' X.out] at hp
                rcases List.mem_append.1 hp with hp | hp
                · exact HI.out.2.2 p hp
                · rw [List.mem_singleton.1 hp]; exact okP_iff.2 ⟨hx, hx⟩
          · have hb1 : (x != y) = true := by simpa using hxy
            have hb2 : (x == y) = false := by simpa using hxy
            go_wp2_with (first
              | (go_at_call 68; refine (is_yes _ _ _ (by omega)).mono ?_; rintro e w' ⟨rfl, rfl⟩)
              | (go_at_call 69; refine (key_any _ _ _).mono ?_; rintro e w' ⟨rfl, rfl⟩)
              | (at_mapUpdate; refine wpl_update rfl (.tmp 39) (.tmp 44) _ rfl w.heap.size (min x y) (max x y) rfl rfl rfl ((HI.out.2.1.frame (Below.heap_alloc _ _ _ hm)).frame (Below.heap_alloc _ _ _ (by simp; omega))) (by unfold Wf; omega) (by unfold Wf; omega) ?_; intro w3 hE3 hg3 hs3))
            go_roundg (ps.length - (k + 1))
            case measure => have := HK.out; omega
            case rel =>
              refine ⟨k + 1, by omega, by go_num, ((HI.out.1.alloc HI.out.1.size _).alloc (by have := HI.out.1.size; simp; omega) _).grown hg3 (by have := HI.out.1.size; simp; omega) (fun c hc => by injection hc; omega), ?_, ?_⟩
              · rw [HST.out, stepE, if_neg hxy]
                exact hE3
              · intro p hp
                rw [take_snoc' X.out] at hp
                rcases List.mem_append.1 hp with hp | hp
                · exact HI.out.2.2 p hp
                · rw [List.mem_singleton.1 hp]; exact okP_iff.2 ⟨hx, hy⟩
        · go_wp2_with (go_at_call 68; first | (refine (is_yes _ _ _ (by omega)).mono ?_; rintro e w' ⟨rfl, rfl⟩) | (refine (is_no _ _ _ (by omega)).mono ?_; rintro e w' ⟨rfl, rfl⟩))
          go_ret2
          have hm : (x, y) ∈ ps := List.mem_of_getElem? X.out
          exact ⟨HI.out.1.alloc HI.out.1.size _, fun h => absurd (okP_iff.1 (h _ hm)).2 hy, fun _ => rfl⟩
      · go_wp2_with (go_at_call 68; refine (is_no _ _ _ (by omega)).mono ?_; rintro e w' ⟨rfl, rfl⟩)
        go_ret2
        have hm : (x, y) ∈ ps := List.mem_of_getElem? X.out
        exact ⟨HI.out.1.alloc HI.out.1.size _, fun h => absurd (okP_iff.1 (h _ hm)).1 hx, fun _ => rfl⟩
    · have hk : k = ps.length := by have := HK.out; omega
      have hI := HI.out
      rw [hk, MakeInv, List.take_length] at hI
      have hI' := Lib.hid hI
      clear HI hI hk HK
      go_wp2_with (go_at_call 70; refine (of_any wr n hn w.heap.size w.heap.size (mkE ps) hI'.out.2.1 (edgy_mkE hI'.out.2.2) (Nat.le_refl _)).mono ?_; rintro e w' ⟨hb, g, rfl, hg⟩; have HB := Lib.hid hb; have HG := Lib.hid hg; clear hb hg)
      go_ret2
      refine ⟨below_then' hI'.out.1 HB.out, fun _ => ⟨g, rfl, ?_⟩, fun ⟨p, hp, h⟩ => ?_⟩
      · rw [← ofE_mkE]; exact HG.out
      · rw [hI'.out.2.2 p hp] at h; cases h
end Go.Proofs.YthbojpaghbbnnaaDoor
namespace Go.Proofs.YthbojpaghbbnnaaDoor
open Go.RowKit Go.WideMaps Go.Maps
set_option linter.unusedVariables false
set_option linter.unusedSimpArgs false
/-- The graph's struct opened: block b, the map in block m, the rows t. -/
structure PGc (w : World) (lo hi b m : Nat) (t : Option Addr) (c : Nat) (E : List (Int × Int)) (G : Gr) : Prop where
  ok : G.Ok
  lt : b < w.heap.size
  c0 : w.cell? ⟨b, 0, none⟩ = some (.int .i64 (G.n : Int))
  c1 : w.cell? ⟨b, 1, none⟩ = some (.map (some m))
  c2 : w.cell? ⟨b, 2, none⟩ = some (.slice t G.n c)
  map : EMap w m E
  tells : Tells E G
  le : hi ≤ w.heap.size
  rows : Rows2 w lo hi (.slice t G.n c) G.n (fun u => up (G.nb u))
theorem PG.open_ {w : World} {lo hi : Nat} {g : Value} {G : Gr} (h : PG w lo hi g G) : ∃ b m t c E, g = .pointer (some ⟨b, 0, none⟩) ∧ PGc w lo hi b m t c E G := by
  obtain ⟨h0, h1, b, m, t, c, E, rfl, h3, h4, h5, h6, h7, h8, h9, h10⟩ := h
  exact ⟨b, m, t, c, E, rfl, h0, (Array.getElem?_eq_some_iff.1 h5).1, cell_of h5 0, cell_of h5 1, cell_of h5 2, h8, h9, h1, h10⟩
theorem PGc.at_ {w w' : World} {lo hi b m : Nat} {t : Option Addr} {c : Nat} {E : List (Int × Int)} {G : Gr} (h : PGc w lo hi b m t c E G) (k : Below w.heap.size w w') : PGc w' lo hi b m t c E G where
  ok := h.ok
  lt := Nat.lt_of_lt_of_le h.lt k.size
  c0 := (k.cell (p := ⟨b, 0, none⟩) h.lt).trans h.c0
  c1 := (k.cell (p := ⟨b, 1, none⟩) h.lt).trans h.c1
  c2 := (k.cell (p := ⟨b, 2, none⟩) h.lt).trans h.c2
  map := h.map.frame (k.block m h.map.lt)
  tells := h.tells
  le := Nat.le_trans h.le k.size
  rows := h.rows.frame (same_below k h.le)
set_option maxHeartbeats 400000 in
theorem Degree_any (w : World) {lo hi : Nat} {g : Value} {G : Gr} (h : PG w lo hi g G) (v : Int) :
    Calls Tryd.prog 56 #[g, .int .i64 v] w fun e w' => e = .returned (.int .i64 (if 0 ≤ v then ((G.nb v.toNat).length : Int) else 0)) ∧ w = w' := by
  obtain ⟨b, m, t, c, E, rfl, hc⟩ := h.open_
  have c0 := hc.c0
  have c2 := hc.c2
  by_cases hv : 0 ≤ v ∧ v < G.n
  · obtain ⟨k, rfl⟩ := Int.eq_ofNat_of_zero_le hv.1
    rw [if_pos hv.1, Int.toNat_natCast]
    have hk : k < G.n := by omega
    obtain ⟨bb, off, x, rfl, _, _, g1, hx⟩ := hc.rows.get k hk
    obtain ⟨_, A, cc, rfl⟩ := hx.form
    rw [up_length] at g1
    clear hc hx
    go_enter Tryd.func56, Tryd.ntmps56
    go_wp2_with (go_at_call 68; refine (is_yes _ _ _ hv).mono ?_; rintro e w' ⟨rfl, rfl⟩)
    go_ret
    exact ⟨rfl, rfl⟩
  · have e : (if 0 ≤ v then ((G.nb v.toNat).length : Int) else 0) = 0 := by
      split
      · rw [Gr.nb_out hc.ok (by omega)]; rfl
      · rfl
    rw [e]
    clear hc e
    go_enter Tryd.func56, Tryd.ntmps56
    go_wp2_with (go_at_call 68; refine (is_no _ _ _ hv).mono ?_; rintro e w' ⟨rfl, rfl⟩)
    go_ret
    exact ⟨rfl, rfl⟩
/-- The neighbours of any number. -/
def Gr.nbz (G : Gr) (v : Int) : List Nat := if 0 ≤ v then G.nb v.toNat else []
set_option maxHeartbeats 400000 in
theorem Neighbours_any (w : World) {lo hi : Nat} {g : Value} {G : Gr} (h : PG w lo hi g G) (v : Int) :
    Calls Tryd.prog 61 #[g, .int .i64 v] w fun e w' => Below w.heap.size w w' ∧ ∃ x, e = .returned x ∧ w'.ownsRow w.heap.size 3 1 x (G.nbz v).length ((up (G.nbz v)).map (Value.int .i64)) := by
  obtain ⟨b, m, t, c, E, rfl, hc⟩ := h.open_
  have c0 := hc.c0
  have c2 := hc.c2
  by_cases hv : 0 ≤ v ∧ v < G.n
  · obtain ⟨k, rfl⟩ := Int.eq_ofNat_of_zero_le hv.1
    have e : G.nbz (k : Int) = G.nb k := by simp [Gr.nbz]
    rw [e]
    have hk : k < G.n := by omega
    obtain ⟨bb, off, x, rfl, _, _, g1, hx⟩ := hc.rows.get k hk
    have hlen : (up (G.nb k)).length * 8 ≤ 140737488355328 := by have := G.nb_length_le k; have := hc.ok.small; rw [up_length]; omega
    have HX := Lib.hid hx
    have HL := Lib.hid hlen
    clear hc hx hlen e
    go_enter Tryd.func61, Tryd.ntmps61
    go_wp2_with (first
      | (go_at_call 68; refine (is_yes _ _ _ hv).mono ?_; rintro e w' ⟨rfl, rfl⟩)
      | (go_at_call 58; refine (Clone_any w HX.out HL.out).mono ?_; rintro e w' ⟨hb, y, rfl, hy⟩; have HB := Lib.hid hb; have HY := Lib.hid hy; clear hb hy))
    go_ret
    exact ⟨HB.out, _, rfl, by have := HY.out; rwa [up_length] at this⟩
  · have e : G.nbz v = [] := by
      unfold Gr.nbz
      split
      · rw [Gr.nb_out hc.ok (by omega)]
      · rfl
    rw [e]
    clear hc e
    go_enter Tryd.func61, Tryd.ntmps61
    go_wp2_with (go_at_call 68; refine (is_no _ _ _ hv).mono ?_; rintro e w' ⟨rfl, rfl⟩)
    go_ret
    exact ⟨Below.refl _ _, _, rfl, World.ownsRow_nil _ _ _ _⟩
def Gr.has (G : Gr) (u v : Int) : Bool := decide (0 ≤ u) && decide (0 ≤ v) && G.adj u.toNat v.toNat
end Go.Proofs.YthbojpaghbbnnaaDoor
namespace Go.Proofs.YthbojpaghbbnnaaDoor
open Go.RowKit Go.WideMaps Go.Maps
set_option linter.unusedVariables false
set_option linter.unusedSimpArgs false
/-- The vertices from a to b - 1. -/
def segF (a : Int) : Nat := (max a 0).toNat
def segL (n : Nat) (a b : Int) : Nat := (min b n - max a 0).toNat
def seg (n : Nat) (a b : Int) : List Nat := (List.range (segL n a b)).map (segF a + ·)
theorem segL_le (n : Nat) (a b : Int) : segL n a b ≤ n := by unfold segL; omega
end Go.Proofs.YthbojpaghbbnnaaDoor
namespace Go.Proofs.YthbojpaghbbnnaaDoor
open Go.RowKit Go.WideMaps Go.Maps
set_option linter.unusedVariables false
set_option linter.unusedSimpArgs false
theorem infoList : (Tryd.prog.info? 74).map (fun i => (i.zero, i.size, i.bytes)) = some (some (.agg #[.int .i64 0, .slice none 0 0]), 2, 32) := by kernel_rfl
def mixL (L : List (Int × List Int)) (vs : List Value) : List Value := (List.zipWith (fun p x => [Value.int .i64 p.1, x]) L vs).flatten
theorem mixL_snoc (L : List (Int × List Int)) (vs : List Value) (h : vs.length = L.length) (p : Int × List Int) (x : Value) : mixL (L ++ [p]) (vs ++ [x]) = mixL L vs ++ [.int .i64 p.1, x] := by
  unfold mixL
  rw [List.zipWith_append h.symm]
  simp
/-- .. that the call owns, each list at a block of its own kind. -/
def OwnL (w : World) (base : Nat) (v : Value) (L : List (Int × List Int)) : Prop :=
  ∃ vs : List Value, vs.length = L.length ∧ w.ownsRow base 74 2 v L.length (mixL L vs) ∧ ∀ (i : Nat) (p : Int × List Int) (x : Value), L[i]? = some p → vs[i]? = some x → w.ownsRow base 3 1 x p.2.length (p.2.map (Value.int .i64))
theorem OwnL.nil (w : World) (base : Nat) : OwnL w base (.slice none 0 0) [] := ⟨[], rfl, World.ownsRow_nil _ _ _ _, fun i p x h => by simp at h⟩
theorem OwnL.snoc {W w1 : World} {base : Nat} {v v1 y : Value} {L : List (Int × List Int)} {vs : List Value} {p : Int × List Int} (h1 : vs.length = L.length) (h2 : W.ownsRow base 74 2 v L.length (mixL L vs))
    (h3 : ∀ (i : Nat) (p : Int × List Int) (x : Value), L[i]? = some p → vs[i]? = some x → W.ownsRow base 3 1 x p.2.length (p.2.map (Value.int .i64)))
    (hy : W.ownsRow base 3 1 y p.2.length (p.2.map (Value.int .i64))) (hown : w1.ownsRow base 74 2 v1 (L.length + 1) (mixL L vs ++ [.int .i64 p.1, y])) (hg : W.grownBy w1 v.ownBlock) : OwnL w1 base v1 (L ++ [p]) := by
  refine ⟨vs ++ [y], by simp [h1], ?_, fun i q x hq hx => ?_⟩
  · rw [mixL_snoc L vs h1, List.length_append]
    exact hown
  · by_cases hi : i < L.length
    · rw [List.getElem?_append_left hi] at hq
      rw [List.getElem?_append_left (by omega)] at hx
      have := h3 i q x hq hx
      exact this.kept hg (own_ne_type this h2 (by decide))
    · have hi' : i = L.length := by
        have := (List.getElem?_eq_some_iff.1 hq).1
        simp at this
        omega
      subst hi'
      rw [List.getElem?_append_right (Nat.le_refl _)] at hq
      rw [List.getElem?_append_right (by omega), h1] at hx
      simp at hq hx
      subst hq
      subst hx
      exact hy.kept hg (own_ne_type hy h2 (by decide))
/-- Of the vertices from a to b - 1 that have a neighbour their lists. -/
def Gr.lists (G : Gr) (a b : Int) : List (Nat × List Nat) := ((seg G.n a b).filter (fun u => decide (0 < (G.nb u).length))).map (fun u => (u, G.nb u))
def upL (l : List (Nat × List Nat)) : List (Int × List Int) := l.map (fun p => ((p.1 : Int), up p.2))
def listsTo (G : Gr) (a : Int) (k : Nat) : List (Nat × List Nat) := (((List.range k).map (segF a + ·)).filter (fun u => decide (0 < (G.nb u).length))).map (fun u => (u, G.nb u))
theorem listsTo_succ (G : Gr) (a : Int) (k : Nat) : listsTo G a (k + 1) = listsTo G a k ++ if 0 < (G.nb (segF a + k)).length then [(segF a + k, G.nb (segF a + k))] else [] := by
  unfold listsTo
  rw [List.range_succ, List.map_append, List.filter_append, List.map_append]
  congr 1
  by_cases h : 0 < (G.nb (segF a + k)).length <;> simp [h]
theorem listsTo_le (G : Gr) (a : Int) (k : Nat) : (listsTo G a k).length ≤ k := by
  unfold listsTo
  rw [List.length_map]
  have := List.length_filter_le (fun u => decide (0 < (G.nb u).length)) ((List.range k).map (segF a + ·))
  simpa using this
set_option maxRecDepth 100000 in
set_option maxHeartbeats 4000000 in
theorem Lists_any (w : World) {lo hi : Nat} {g : Value} {G : Gr} (h : PG w lo hi g G) (a b' : Int) (ha : Wf a) (hb : Wf b') :
    Calls Tryd.prog 28 #[g, .int .i64 a, .int .i64 b'] w fun e w' => Below w.heap.size w w' ∧ ∃ x, e = .returned x ∧ OwnL w' w.heap.size x (upL (G.lists a b')) := by
  obtain ⟨b, m, t, c, E, rfl, hc⟩ := h.open_
  have HC := Lib.hid hc
  have hsm := hc.ok.small
  clear hc h
  have hsL := segL_le G.n a b'
  obtain ⟨f, hf⟩ : ∃ f, f = segF a := ⟨_, rfl⟩
  obtain ⟨L, hL⟩ : ∃ L, L = segL G.n a b' := ⟨_, rfl⟩
  have hfa : (f : Int) = max a 0 := by rw [hf]; unfold segF; omega
  have hLa : (L : Int) = max 0 (min b' G.n - max a 0) := by rw [hL]; unfold segL; omega
  have HF := Lib.hid hf
  have HL := Lib.hid hL
  have HFA := Lib.hid hfa
  have HLA := Lib.hid hLa
  have hL4 : L ≤ 16777216 := by omega
  have hf0 : (f : Int) ≤ 9223372036854775807 := by unfold Wf at *; omega
  clear hsL hf hL hfa hLa
  go_enter Tryd.func28, Tryd.ntmps28
  go_wp2
  go_loopg [7, 8] L (fun d v s wr => ∃ k : Nat, d + k = L ∧ s = .int .i64 ((f + k : Nat) : Int) ∧ Hid (Below w.heap.size w wr ∧ OwnL wr w.heap.size v (upL (listsTo G a k))))
  case atStart => exact ⟨0, rfl, by rw [← HFA.out]; rfl, Below.refl _ _, OwnL.nil _ _⟩
  case round =>
    obtain ⟨k, hk, rfl, HI⟩ := hrel
    have HK := Lib.hid hk
    clear hk
    have c0 := (HC.out.at_ HI.out.1).c0
    by_cases hlt : k < L
    · have hu : f + k < G.n := by have := HLA.out; have := HFA.out; omega
      have hub : ((f + k : Nat) : Int) < b' := by have := HLA.out; have := HFA.out; omega
      have c2 := (HC.out.at_ HI.out.1).c2
      obtain ⟨bb, off, x, rfl, _, hbb, g0, hx⟩ := HC.out.rows.get (f + k) hu
      have g1 := (HI.out.1.cell (p := ⟨bb, off + (f + k), none⟩) (Nat.lt_of_lt_of_le hbb HC.out.le)).trans g0
      obtain ⟨hxl, A, cc, rfl⟩ := hx.form
      rw [up_length] at g1 hxl
      have HX := Lib.hid hx
      obtain ⟨u, hu0⟩ : ∃ u, u = f + k := ⟨_, rfl⟩
      have HU := Lib.hid hu0
      rw [← hu0] at hub hu g1 HX hxl ⊢
      clear hx g0 hu0
      have hd : decide ((u : Int) < min b' (G.n : Int)) = true := by simp; omega
      have hsu : segF a + k = u := by rw [HU.out, HF.out]
      have hst : upL (listsTo G a (k + 1)) = upL (listsTo G a k) ++ if 0 < (G.nb u).length then [((u : Int), up (G.nb u))] else [] := by
        rw [listsTo_succ, hsu]
        by_cases h0 : 0 < (G.nb u).length <;> simp [h0, upL]
      have HST := Lib.hid hst
      have hnl := G.nb_length_le u
      clear hst hsu
      by_cases h0 : 0 < (G.nb u).length
      · obtain ⟨vs, l1, l2, l3⟩ := HI.out.2
        have hll : (upL (listsTo G a k)).length ≤ 16777216 := by have := listsTo_le G a k; unfold upL; rw [List.length_map]; omega
        have L1 := Lib.hid l1
        have L2 := Lib.hid l2
        have L3 := Lib.hid l3
        clear l1 l2 l3
        have HN : Hid ((up (G.nb u)).length * 8 ≤ 140737488355328) := by
          have : (up (G.nb u)).length * 8 ≤ 140737488355328 := by rw [up_length]; omega
          exact this
        have HX' := Lib.hid (HX.out.at_ HI.out.1)
        go_wp2_with (first
          | (go_at_call 58; refine (Clone_any wr (by have := HX'.out; rwa [up_length] at this) HN.out).mono ?_; rintro e w2 ⟨hb2, y, rfl, hy⟩; obtain ⟨A2, c2', rfl⟩ := (sl_own hy).2.2.2.imp (fun _ h => h.imp (fun _ h => h.1)); have HB2 := Lib.hid hb2; have HY := Lib.hid hy; clear hb2 hy)
          | (at_builtin; refine app_one w.heap.size rfl (.tmp 30) (.tmp 41) 59 74 _ 2 32 rfl Tryd.underlying59 infoList rfl (by decide) (by decide) _ _ _ #[.int .i64 (u : Int), .slice A2 (up (G.nb u)).length c2'] rfl rfl rfl (by simp [Value.oneCell']) (L2.out.kept (grown_of_below HB2.out none) (by cases h : Value.ownBlock _ <;> simp)) (Nat.le_trans HI.out.1.size HB2.out.size) (by omega) ?_; intro v1 w1 hown1 hg1 _; have HG1 := Lib.hid hg1; have HO1 := Lib.hid hown1; clear hg1 hown1))
        go_roundg (L - (k + 1))
        case measure => have := HK.out; omega
        case rel =>
          have hL2 := L2.out.kept (grown_of_below HB2.out none) (by cases h : Value.ownBlock _ <;> simp)
          have hB2 := below_then' HI.out.1 HB2.out
          refine ⟨k + 1, by omega, by have := HU.out; subst this; go_num, hB2.grown HG1.out hB2.size (fun c hc => own_ge hL2 c hc), ?_⟩
          rw [HST.out, if_pos h0]
          refine OwnL.snoc L1.out hL2 (fun i p x hp hx => (L3.out i p x hp hx).kept (grown_of_below HB2.out none) (by cases h : Value.ownBlock _ <;> simp)) ?_ HO1.out HG1.out
          exact ownsRow_mono HY.out HI.out.1.size
      · have hd0 : decide (0 < (G.nb u).length) = false := by simpa using h0
        go_wp2
        go_roundg (L - (k + 1))
        case measure => have := HK.out; omega
        case rel =>
          refine ⟨k + 1, by omega, by have := HU.out; subst this; go_num, HI.out.1, ?_⟩
          rw [HST.out, if_neg h0, List.append_nil]
          exact HI.out.2
    · have hke : k = L := by have := HK.out; omega
      have hI := HI.out
      rw [hke, HL.out] at hI
      have HI' := Lib.hid hI
      have hge : ¬ ((f + k : Nat) : Int) < b' ∨ ¬ ((f + k : Nat) : Int) < (G.n : Int) := by have := HLA.out; have := HFA.out; omega
      clear hI HI
      have hd : decide (((f + k : Nat) : Int) < min b' (G.n : Int)) = false := by simp only [decide_eq_false_iff_not]; omega
      go_wp2
      go_ret
      exact ⟨HI'.out.1, _, rfl, HI'.out.2⟩
end Go.Proofs.YthbojpaghbbnnaaDoor
namespace Go.Proofs.YthbojpaghbbnnaaDoor
open Go.RowKit Go.WideMaps Go.Maps
set_option linter.unusedVariables false
set_option linter.unusedSimpArgs false
abbrev Chg := (Int × Int) × Bool
end Go.Proofs.YthbojpaghbbnnaaDoor
namespace Go.Proofs.YthbojpaghbbnnaaDoor
set_option linter.unusedVariables false
set_option linter.unusedSimpArgs false
/-- b stands at the end of a way from a through vertices of K. -/
inductive Con (G : Gr) (K : Nat → Bool) (a : Nat) : Nat → Prop
  | here : Con G K a a
  | step {x y : Nat} : Con G K a x → G.adj x y = true → K y = true → Con G K a y
/-- All labels are below B, all kept vertices below D have one; T: the pairs still to be looked at. -/
structure PInv (G : Gr) (K : Nat → Bool) (B D : Nat) (p : List Int) (T : Nat → Nat → Prop) : Prop where
  len : p.length = G.n
  lab : ∀ (x : Nat) (a : Int), p[x]? = some a → a = -1 ∨ ∃ r : Nat, a = r ∧ r ≤ x ∧ r < B ∧ K r = true ∧ K x = true ∧ Con G K r x ∧ p[r]? = some (r : Int)
  don : ∀ x, x < G.n → x < D → K x = true → p[x]? ≠ some (-1)
  clo : ∀ x y, K x = true → K y = true → G.adj x y = true → p[x]? ≠ some (-1) → p[y]? = p[x]? ∨ T x y
def Parted (G : Gr) (K : Nat → Bool) (p : List Int) : Prop := PInv G K G.n G.n p (fun _ _ => False)
variable {G : Gr} {K : Nat → Bool} {B D v : Nat} {p : List Int} {T : Nat → Nat → Prop}
theorem PInv.start {G : Gr} (hG : G.Ok) (K : Nat → Bool) : PInv G K 0 0 (List.replicate G.n (-1)) (fun _ _ => False) where
  len := by simp
  lab x a h := by
    rw [List.getElem?_replicate] at h
    split at h
    · injection h with h; exact .inl h.symm
    · cases h
  don x _ h := by omega
  clo x y _ _ hk hx := by
    rw [List.getElem?_replicate, if_pos (hG.rng x y hk)] at hx
    exact absurd rfl hx
theorem PInv.skip (h : PInv G K B D p T) (hd : K D = true → p[D]? ≠ some (-1)) : PInv G K (B + 1) (D + 1) p T where
  len := h.len
  lab x a k := (h.lab x a k).imp id (fun ⟨r, h1, h2, h3, h4⟩ => ⟨r, h1, h2, by omega, h4⟩)
  don x hn hx hk := by
    rcases Nat.lt_or_ge x D with h1 | h1
    · exact h.don x hn h1 hk
    · have : x = D := by omega
      subst this; exact hd hk
  clo := h.clo
theorem PInv.label {B' r w : Nat} (h : PInv G K B D p T) (hB : B ≤ B') (hw : p[w]? = some (-1)) (hr : r < B') (hrw : r ≤ w) (hKr : K r = true) (hKw : K w = true) (hc : Con G K r w) (hp : r = w ∨ p[r]? = some (r : Int)) :
    PInv G K B' D (p.set w r) (fun x y => T x y ∨ x = w) where
  len := by rw [List.length_set, h.len]
  lab x a k := by
    have hlt : w < p.length := (List.getElem?_eq_some_iff.1 hw).1
    by_cases e : w = x
    · subst e
      rw [get_set_eq _ hlt] at k
      injection k with k
      refine .inr ⟨r, k.symm, hrw, hr, hKr, hKw, hc, ?_⟩
      rcases hp with rfl | hp
      · exact get_set_eq _ hlt
      · by_cases e2 : w = r
        · subst e2; exact get_set_eq _ hlt
        · rw [get_set_ne _ e2]; exact hp
    · rw [get_set_ne _ e] at k
      refine (h.lab x a k).imp id (fun ⟨s, h1, h2, h3, h4, h5, h6, h7⟩ => ⟨s, h1, h2, by omega, h4, h5, h6, ?_⟩)
      have : w ≠ s := fun e => by subst e; rw [hw] at h7; injection h7 with h7; omega
      rw [get_set_ne _ this]; exact h7
  don x hn hx hk := by
    have hlt : w < p.length := (List.getElem?_eq_some_iff.1 hw).1
    by_cases e : w = x
    · subst e; rw [get_set_eq _ hlt]; intro k; injection k with k; omega
    · rw [get_set_ne _ e]; exact h.don x hn hx hk
  clo x y h1 h2 h3 h4 := by
    have hlt : w < p.length := (List.getElem?_eq_some_iff.1 hw).1
    by_cases e : w = x
    · exact .inr (.inr e.symm)
    · rw [get_set_ne _ e] at h4 ⊢
      rcases h.clo x y h1 h2 h3 h4 with k | k
      · have : w ≠ y := fun e => by subst e; rw [hw] at k; exact h4 k.symm
        rw [get_set_ne _ this]; exact .inl k
      · exact .inr (.inl k)
theorem Parted.con (h : Parted G K p) {r x : Nat} (hr : K r = true) (hn : p[r]? ≠ some (-1)) (hc : Con G K r x) : K x = true ∧ p[x]? = p[r]? := by
  induction hc with
  | here => exact ⟨hr, rfl⟩
  | step _ hk hy ih =>
    refine ⟨hy, ?_⟩
    rcases h.clo _ _ ih.1 hy hk (by rw [ih.2]; exact hn) with k | k
    · rw [k, ih.2]
    · exact absurd k id
theorem Parted.uniq {q : List Int} (h : Parted G K p) (k : Parted G K q) : p = q := by
  refine List.ext_getElem? (fun x => ?_)
  rcases Nat.lt_or_ge x G.n with hx | hx
  · obtain ⟨a, ha⟩ : ∃ a, p[x]? = some a := ⟨_, List.getElem?_eq_getElem (by rw [h.len]; exact hx)⟩
    obtain ⟨b, hb⟩ : ∃ b, q[x]? = some b := ⟨_, List.getElem?_eq_getElem (by rw [k.len]; exact hx)⟩
    by_cases hk : K x = true
    · have h1 := h.don x hx hx hk
      have h2 := k.don x hx hx hk
      rcases h.lab x a ha with rfl | ⟨r, rfl, r1, r2, r3, r4, r5, r6⟩
      · exact absurd ha h1
      · rcases k.lab x b hb with rfl | ⟨s, rfl, s1, s2, s3, s4, s5, s6⟩
        · exact absurd hb h2
        · have e1 := (h.con s3 (h.don s s2 s2 s3) s5).2
          have e2 := (k.con r3 (k.don r r2 r2 r3) r5).2
          rw [ha] at e1
          rw [hb] at e2
          have g1 : r ≤ s := by
            rcases h.lab s _ e1.symm with e | ⟨t, e, t1, _⟩
            · omega
            · omega
          have g2 : s ≤ r := by
            rcases k.lab r _ e2.symm with e | ⟨t, e, t1, _⟩
            · omega
            · omega
          rw [ha, hb, Nat.le_antisymm g1 g2]
    · have e1 : a = -1 := (h.lab x a ha).elim id (fun ⟨r, _, _, _, _, h5, _⟩ => absurd h5 hk)
      have e2 : b = -1 := (k.lab x b hb).elim id (fun ⟨r, _, _, _, _, h5, _⟩ => absurd h5 hk)
      rw [ha, hb, e1, e2]
  · rw [List.getElem?_eq_none (by rw [h.len]; exact hx), List.getElem?_eq_none (by rw [k.len]; exact hx)]
def cnt (p : List Int) : Nat := p.count (-1)
def Next (G : Gr) (u k : Nat) (x y : Nat) : Prop := x = u ∧ y ∈ (G.nb u).drop k
end Go.Proofs.YthbojpaghbbnnaaDoor
namespace Go.Proofs.YthbojpaghbbnnaaDoor
open Go.RowKit Go.WideMaps Go.Maps
set_option linter.unusedVariables false
set_option linter.unusedSimpArgs false
abbrev kK (keep : List Bool) : Nat → Bool := fun x => keep.getD x false
abbrev OI (w : World) (base : Nat) (v : Value) (xs : List Int) : Prop := Own1 w base 3 (Value.int .i64) v xs
end Go.Proofs.YthbojpaghbbnnaaDoor
namespace Go.Proofs.YthbojpaghbbnnaaDoor.Z
open Go Go.RowKit
set_option linter.unusedVariables false
set_option linter.unusedSimpArgs false
def rho : Obs := fun n => match n with
  | 0 => fun w v G => ∃ lo hi, PG w lo hi v G
  | 3 => fun w _ _ => Kw w
  | _ => fun _ _ _ => False
theorem tr0 {U : Nat → Prop} {hd : Nat → Value} (w : World) : Tr (Us U 0 hd) w U w := fun _ k => k.mono (fun _ _ h => .inl h)
theorem tr0' {U : Nat → Prop} {hd : Nat → Value} (w : World) : Tr U w (Us U 0 hd) w := fun _ k => k.mono (fun _ _ h => h.elim id (fun ⟨i, hi, _⟩ => absurd hi (Nat.not_lt_zero i)))
theorem apart0 (hd : Nat → Value) : Apart 0 hd := fun i _ hi => absurd hi (Nat.not_lt_zero i)
section
variable {ρ : Obs} {P : Program} {f : FuncId}
def Res1 (ρ : Obs) (U : Nat → Prop) (w : World) (r : T) (y : r.den) (e : Ending) (w' : World) : Prop := Below w.heap.size w w' ∧ ∃ u, e = .returned u ∧ IRd ρ U w' r u y
def Res2 (ρ : Obs) (U : Nat → Prop) (w : World) (r s : T) (y : r.den) (z : s.den) (e : Ending) (w' : World) : Prop := Below w.heap.size w w' ∧ ∃ u v, e = .returned (.tuple #[u, v]) ∧ IRd ρ U w' r u y ∧ IRd ρ U w' s v z
theorem sound11 {fr : Bool} {t0 r0 : T} {pre : t0.den → Bool} {fn : t0.den → r0.den × Unit} (h : ∀ x0, pre x0 = true → ∀ w U U' v0, (∀ b, U' b → b < w.heap.size) → IRd ρ U w t0 v0 x0 → Calls P f #[v0] w (Res1 ρ U' w r0 (fn x0).1)) :
    Sound P ρ f ⟨[.val t0], [.val r0], fun d => match d with | (x0, _) => pre x0, fun d => match d with | (x0, _) => fn x0, fr⟩ := by
  intro d hp w U0 U1 hd0 vs hu hu1 hfr hap hK ha
  obtain ⟨x0, _⟩ := d
  match vs, ha with
  | [v0], ⟨h0, _⟩ =>
    refine (h x0 hp w U0 U1 v0 (fun b hb => (hu1 b hb).1) (h0.tr (tr0 w))).mono ?_
    rintro e w' ⟨hb, u, rfl, hr⟩
    exact ⟨[u], hd0, rfl, Ag.of_below hb _, fun _ hi => absurd hi (Nat.not_lt_zero _), fun _ hi => absurd hi (Nat.not_lt_zero _), apart0 _, trivial, hr.tr (tr0' w'), trivial⟩
theorem sound21 {fr : Bool} {t0 t1 r0 : T} {pre : t0.den → t1.den → Bool} {fn : t0.den → t1.den → r0.den × Unit} (h : ∀ x0 x1, pre x0 x1 = true → ∀ w U U' v0 v1, (∀ b, U' b → b < w.heap.size) → IRd ρ U w t0 v0 x0 → IRd ρ U w t1 v1 x1 → Calls P f #[v0, v1] w (Res1 ρ U' w r0 (fn x0 x1).1)) :
    Sound P ρ f ⟨[.val t0, .val t1], [.val r0], fun d => match d with | (x0, x1, _) => pre x0 x1, fun d => match d with | (x0, x1, _) => fn x0 x1, fr⟩ := by
  intro d hp w U0 U1 hd0 vs hu hu1 hfr hap hK ha
  obtain ⟨x0, x1, _⟩ := d
  match vs, ha with
  | [v0, v1], ⟨h0, h1, _⟩ =>
    refine (h x0 x1 hp w U0 U1 v0 v1 (fun b hb => (hu1 b hb).1) (h0.tr (tr0 w)) (h1.tr (tr0 w))).mono ?_
    rintro e w' ⟨hb, u, rfl, hr⟩
    exact ⟨[u], hd0, rfl, Ag.of_below hb _, fun _ hi => absurd hi (Nat.not_lt_zero _), fun _ hi => absurd hi (Nat.not_lt_zero _), apart0 _, trivial, hr.tr (tr0' w'), trivial⟩
theorem sound31 {fr : Bool} {t0 t1 t2 r0 : T} {pre : t0.den → t1.den → t2.den → Bool} {fn : t0.den → t1.den → t2.den → r0.den × Unit} (h : ∀ x0 x1 x2, pre x0 x1 x2 = true → ∀ w U U' v0 v1 v2, (∀ b, U' b → b < w.heap.size) → IRd ρ U w t0 v0 x0 → IRd ρ U w t1 v1 x1 → IRd ρ U w t2 v2 x2 → Calls P f #[v0, v1, v2] w (Res1 ρ U' w r0 (fn x0 x1 x2).1)) :
    Sound P ρ f ⟨[.val t0, .val t1, .val t2], [.val r0], fun d => match d with | (x0, x1, x2, _) => pre x0 x1 x2, fun d => match d with | (x0, x1, x2, _) => fn x0 x1 x2, fr⟩ := by
  intro d hp w U0 U1 hd0 vs hu hu1 hfr hap hK ha
  obtain ⟨x0, x1, x2, _⟩ := d
  match vs, ha with
  | [v0, v1, v2], ⟨h0, h1, h2, _⟩ =>
    refine (h x0 x1 x2 hp w U0 U1 v0 v1 v2 (fun b hb => (hu1 b hb).1) (h0.tr (tr0 w)) (h1.tr (tr0 w)) (h2.tr (tr0 w))).mono ?_
    rintro e w' ⟨hb, u, rfl, hr⟩
    exact ⟨[u], hd0, rfl, Ag.of_below hb _, fun _ hi => absurd hi (Nat.not_lt_zero _), fun _ hi => absurd hi (Nat.not_lt_zero _), apart0 _, trivial, hr.tr (tr0' w'), trivial⟩
theorem sound22 {fr : Bool} {t0 t1 r0 r1 : T} {pre : t0.den → t1.den → Bool} {fn : t0.den → t1.den → r0.den × r1.den × Unit} (h : ∀ x0 x1, pre x0 x1 = true → ∀ w U U' v0 v1, (∀ b, U' b → b < w.heap.size) → IRd ρ U w t0 v0 x0 → IRd ρ U w t1 v1 x1 → Calls P f #[v0, v1] w (Res2 ρ U' w r0 r1 (fn x0 x1).1 (fn x0 x1).2.1)) :
    Sound P ρ f ⟨[.val t0, .val t1], [.val r0, .val r1], fun d => match d with | (x0, x1, _) => pre x0 x1, fun d => match d with | (x0, x1, _) => fn x0 x1, fr⟩ := by
  intro d hp w U0 U1 hd0 vs hu hu1 hfr hap hK ha
  obtain ⟨x0, x1, _⟩ := d
  match vs, ha with
  | [v0, v1], ⟨h0, h1, _⟩ =>
    refine (h x0 x1 hp w U0 U1 v0 v1 (fun b hb => (hu1 b hb).1) (h0.tr (tr0 w)) (h1.tr (tr0 w))).mono ?_
    rintro e w' ⟨hb, u, v, rfl, hr, hs⟩
    exact ⟨[u, v], hd0, rfl, Ag.of_below hb _, fun _ hi => absurd hi (Nat.not_lt_zero _), fun _ hi => absurd hi (Nat.not_lt_zero _), apart0 _, trivial, hr.tr (tr0' w'), hs.tr (tr0' w'), trivial⟩
end
section
variable {ρ : Obs} {U : Nat → Prop} {w : World}
theorem cell_lt {a : Addr} {v : Value} (h : w.cell? a = some v) : a.block < w.heap.size := by
  unfold World.cell? at h
  split at h
  · rename_i hb
    exact (Array.getElem?_eq_some_iff.1 hb).1
  · cases h
theorem els_flat {α : Type} {Q : List Value → α → Prop} {enc : α → List Value} (he : ∀ c x, Q c x → c = enc x) : ∀ {ds : List Value} {xs : List α}, Els Q ds xs → ds = xs.flatMap enc
  | _, [], h => h
  | _, x :: xs, ⟨c, r, e, hq, hr⟩ => by rw [e, he _ _ hq, els_flat he hr, List.flatMap_cons]
theorem flat_els {α : Type} {Q : List Value → α → Prop} {enc : α → List Value} (he : ∀ x, Q (enc x) x) : ∀ xs : List α, Els Q (xs.flatMap enc) xs
  | [] => rfl
  | x :: xs => ⟨enc x, _, List.flatMap_cons, he x, flat_els he xs⟩
theorem sl_in {t : T} {enc : t.den → List Value} (he : ∀ cs x, ICs ρ U w t cs x → cs = enc x) {v : Value} {xs : List t.den} (h : IRd ρ U w (.list t) v xs) : Sl w 0 w.heap.size t.size v xs.length (xs.flatMap enc) := by
  obtain ⟨cs, rfl, A, c, ds, rfl, h1, h2, h3, h4⟩ := h
  have hlen : ds.length = xs.length * t.size := Els.length (fun c x q => ICs.length q) h3
  have hds := els_flat he h3
  subst hds
  refine ⟨Nat.le_refl _, hlen, h1, A, c, rfl, fun hn => ?_⟩
  obtain ⟨b, off, rfl, h5⟩ := h4 hn
  have h6 := h5 w (Ag.refl _ _)
  have hp : 0 < (xs.flatMap enc).length := by rw [hlen]; exact Nat.mul_pos hn (T.size_pos t)
  refine ⟨b, off, rfl, Nat.zero_le _, ?_, fun j hj => h6 j (by rw [hlen]; exact hj)⟩
  have := h6 0 hp
  rw [List.getElem?_eq_getElem hp] at this
  exact cell_lt this
theorem flat_one {α : Type} (f : α → Value) (xs : List α) : xs.flatMap (fun x => [f x]) = xs.map f := by
  induction xs with
  | nil => rfl
  | cons x xs ih => rw [List.flatMap_cons, ih]; rfl
theorem ints_in {v : Value} {xs : List Int} (h : IRd ρ U w (.list I64) v xs) : Ints w 0 w.heap.size v xs := by
  have := sl_in (t := I64) (enc := fun x : Int => [Value.int .i64 x]) (fun _ _ h => h) h
  rw [flat_one] at this
  exact this
theorem bools_in {v : Value} {xs : List Bool} (h : IRd ρ U w (.list .bool) v xs) : Bools w 0 w.heap.size v xs := by
  have := sl_in (t := .bool) (enc := fun x : Bool => [Value.bool x]) (fun _ _ h => h) h
  rw [flat_one] at this
  exact this
theorem ics_pr {cs : List Value} {x : Int × Int} : ICs ρ U w Pr cs x ↔ cs = encP x := by
  constructor
  · rintro ⟨c, d, rfl, rfl, rfl⟩; rfl
  · rintro rfl; exact ⟨[_], [_], rfl, rfl, rfl⟩
theorem prs_in {v : Value} {xs : List (Int × Int)} (h : IRd ρ U w (.list Pr) v xs) : Prs w 0 w.heap.size v xs := sl_in (t := Pr) (enc := encP) (fun _ _ h => ics_pr.1 h) h
abbrev Cg : T := .pair I64 (.pair I64 .bool)
def toC (c : Int × Int × Bool) : Chg := ((c.1, c.2.1), c.2.2)
theorem ics_cg {cs : List Value} {x : Int × Int × Bool} : ICs ρ U w Cg cs x ↔ cs = encC (toC x) := by
  constructor
  · rintro ⟨c, d, rfl, rfl, e, f, rfl, rfl, rfl⟩; rfl
  · rintro rfl; exact ⟨[_], [_, _], rfl, rfl, [_], [_], rfl, rfl, rfl⟩
theorem flat_map' {α β : Type} (f : α → β) (enc : β → List Value) (xs : List α) : xs.flatMap (fun x => enc (f x)) = (xs.map f).flatMap enc := by
  induction xs with
  | nil => rfl
  | cons x xs ih => rw [List.flatMap_cons, ih]; rfl
theorem chs_in {v : Value} {xs : List (Int × Int × Bool)} (h : IRd ρ U w (.list Cg) v xs) : Chs w 0 w.heap.size v (xs.map toC) := by
  have := sl_in (t := Cg) (enc := fun x => encC (toC x)) (fun _ _ h => ics_cg.1 h) h
  rw [flat_map'] at this
  show Sl _ _ _ _ _ _ _
  rw [List.length_map]
  exact this
theorem pg_in {v : Value} {g : Option Gr} (h : IRd rho U w (.obj 0) v g) (hg : g.isSome = true) : ∃ G lo hi, g = some G ∧ PG w lo hi v G := by
  obtain ⟨cs, rfl, v, rfl, h⟩ := h
  cases g with
  | none => cases hg
  | some G =>
    obtain ⟨_, h2⟩ := h
    obtain ⟨lo, hi, h3⟩ := h2 w (Ag.refl _ _)
    exact ⟨G, lo, hi, rfl, h3⟩
theorem same_ag {lo hi : Nat} {w' : World} (h : Ag U w w') (hU : ∀ b, U b → b < lo) (hh : hi ≤ w.heap.size) : Same lo hi w w' := ⟨h.size, fun b h1 h2 => h.block b (by omega) (fun hb => by have := hU b hb; omega)⟩
theorem pg_out {v : Value} {G : Gr} {lo hi : Nat} (h : PG w lo hi v G) (hU : ∀ b, U b → b < lo) : IRd rho U w (.obj 0) v (some G) := by
  obtain ⟨_, _, b, _, _, _, _, rfl, _⟩ := id h
  exact ⟨[_], rfl, _, rfl, ⟨_, rfl⟩, fun w' ha => ⟨lo, hi, h.frame (same_ag ha hU h.2.1)⟩⟩
theorem nil_out {n : Nat} : IRd ρ U w (.obj n) (.pointer none) none := ⟨[_], rfl, _, rfl, rfl⟩
theorem int_out {k : IntKind} (x : Int) : IRd ρ U w (.int k) (.int k x) x := ⟨[_], rfl, rfl⟩
theorem bool_out (x : Bool) : IRd ρ U w .bool (.bool x) x := ⟨[_], rfl, rfl⟩
/-- A fresh row as a value. -/
theorem row_out {t : T} {e : TypeId} {base n : Nat} {v : Value} {cs : List Value} {xs : List t.den} (h : w.ownsRow base e t.size v n cs) (hn : n = xs.length) (he : Els (ICs ρ U w t) cs xs) (hU : ∀ b, U b → b < base) : IRd ρ U w (.list t) v xs := by
  subst hn
  have hs := sl_own h
  obtain ⟨_, h1, h2, A, c, rfl, h3⟩ := hs
  refine ⟨[_], rfl, A, c, cs, rfl, h2, ?_, he, fun hp => ?_⟩
  · rcases h.2 with ⟨e1, _⟩ | ⟨g, cap, cur, e1, _, _, h5, _⟩
    · injection e1 with e1 e2 e3
      omega
    · injection e1 with e1 e2 e3
      omega
  · obtain ⟨b, off, rfl, h4, h5, h6⟩ := h3 hp
    refine ⟨b, off, rfl, fun w' ha j hj => ?_⟩
    rw [World.cell?_of_block (ha.block b h5 (fun hb => by have := hU b hb; omega))]
    exact h6 j (by omega)
theorem row_flat {t : T} {enc : t.den → List Value} (he : ∀ x, ICs ρ U w t (enc x) x) {e : TypeId} {base n : Nat} {v : Value} {xs : List t.den} (h : w.ownsRow base e t.size v n (xs.flatMap enc)) (hn : n = xs.length) (hU : ∀ b, U b → b < base) : IRd ρ U w (.list t) v xs :=
  row_out h hn (flat_els he xs) hU
theorem ints_out {base n : Nat} {v : Value} {xs : List Int} (h : w.ownsRow base 3 1 v n (xs.map (Value.int .i64))) (hn : n = xs.length) (hU : ∀ b, U b → b < base) : IRd ρ U w (.list I64) v xs := by
  rw [← flat_one] at h
  exact row_flat (t := I64) (enc := fun x : Int => [Value.int .i64 x]) (fun _ => rfl) h hn hU
theorem prs_out {base n : Nat} {v : Value} {xs : List (Int × Int)} (h : w.ownsRow base 84 2 v n (xs.flatMap encP)) (hn : n = xs.length) (hU : ∀ b, U b → b < base) : IRd ρ U w (.list Pr) v xs :=
  row_flat (t := Pr) (enc := encP) (fun _ => ics_pr.2 rfl) h hn hU
theorem lists_out {base : Nat} {v : Value} {L : List (Int × List Int)} (h : OwnL w base v L) (hU : ∀ b, U b → b < base) : IRd ρ U w (.list (.pair I64 (.list I64))) v L := by
  obtain ⟨vs, h1, h2, h3⟩ := h
  refine row_out (t := .pair I64 (.list I64)) h2 rfl ?_ hU
  clear h2
  induction L generalizing vs with
  | nil => cases vs with
    | nil => rfl
    | cons x vs => simp at h1
  | cons p L ih => cases vs with
    | nil => simp at h1
    | cons x vs =>
      refine ⟨[.int .i64 p.1, x], mixL L vs, rfl, ?_, ih vs (by simpa using h1) (fun i p x a b => h3 (i + 1) p x (by simpa using a) (by simpa using b))⟩
      have h4 := h3 0 p x rfl rfl
      obtain ⟨cs, e, h5⟩ := ints_out (ρ := ρ) (U := U) h4 rfl hU
      obtain ⟨A, c, ds, rfl, h6⟩ := h5
      exact ⟨[_], [x], rfl, rfl, A, c, ds, by rw [e]; rfl, h6⟩
end
def gr (g : Option Gr) : Gr := g.getD ⟨0, fun _ _ => false⟩
def wf (x : Int) : Bool := decide (-9223372036854775808 ≤ x) && decide (x ≤ 9223372036854775807)
theorem wf_iff {x : Int} : wf x = true ↔ Wf x := by simp [wf, Wf]
namespace N
abbrev ps : List PM := [.val (.obj 0)]
abbrev rs : List PM := [.val I64]
noncomputable def pre (g : Option Gr) : Bool := g.isSome
noncomputable def fn (g : Option Gr) : Int × Unit := (((gr g).n : Int), ())
noncomputable def sig : Sig := ⟨ps, rs, fun d => match d with
  | (g, _) => pre g, fun d => match d with
  | (g, _) => fn g, true⟩
theorem sound : Sound Tryd.prog rho 30 sig := sound11 (fun (g : Option Gr) hp w U U' v0 hU h0 => by
  obtain ⟨G, lo, hi, rfl, hG⟩ := pg_in h0 hp
  refine (N_any w hG).mono ?_
  rintro e w' ⟨rfl, rfl⟩
  exact ⟨Below.refl _ _, _, rfl, int_out _⟩)
theorem enters : Enters Tryd.prog 30 := enters_of (fn := Tryd.f30) (by kernel_rfl) (by kernel_rfl) (by kernel_rfl)
theorem okR : Enters Tryd.prog 30 ∧ Sound Tryd.prog rho 30 sig := ⟨enters, sound⟩
end N
namespace Degree
abbrev ps : List PM := [.val (.obj 0), .val I64]
abbrev rs : List PM := [.val I64]
noncomputable def pre (g : Option Gr) (v : Int) : Bool := g.isSome
noncomputable def fn (g : Option Gr) (v : Int) : Int × Unit := (if 0 ≤ v then (((gr g).nb v.toNat).length : Int) else 0, ())
noncomputable def sig : Sig := ⟨ps, rs, fun d => match d with
  | (g, v, _) => pre g v, fun d => match d with
  | (g, v, _) => fn g v, true⟩
theorem sound : Sound Tryd.prog rho 56 sig := sound21 (fun (g : Option Gr) (v : Int) hp w U U' v0 v1 hU h0 h1 => by
  obtain ⟨G, lo, hi, rfl, hG⟩ := pg_in h0 hp
  obtain rfl := h1.int
  refine (Degree_any w hG v).mono ?_
  rintro e w' ⟨rfl, rfl⟩
  exact ⟨Below.refl _ _, _, rfl, int_out _⟩)
theorem enters : Enters Tryd.prog 56 := enters_of (fn := Tryd.f56) (by kernel_rfl) (by kernel_rfl) (by kernel_rfl)
theorem okR : Enters Tryd.prog 56 ∧ Sound Tryd.prog rho 56 sig := ⟨enters, sound⟩
end Degree
namespace Lists
abbrev ps : List PM := [.val (.obj 0), .val I64, .val I64]
abbrev rs : List PM := [.val (.list (.pair I64 (.list I64)))]
noncomputable def pre (g : Option Gr) (a : Int) (b : Int) : Bool := g.isSome && (wf a && wf b)
noncomputable def fn (g : Option Gr) (a : Int) (b : Int) : (List (Int × List Int)) × Unit := (upL ((gr g).lists a b), ())
noncomputable def sig : Sig := ⟨ps, rs, fun d => match d with
  | (g, a, b, _) => pre g a b, fun d => match d with
  | (g, a, b, _) => fn g a b, true⟩
theorem sound : Sound Tryd.prog rho 28 sig := sound31 (fun (g : Option Gr) (a : Int) (b : Int) hp w U U' v0 v1 v2 hU h0 h1 h2 => by
  have hp := (show (g.isSome && (wf a && wf b)) = true from hp)
  rw [Bool.and_eq_true, Bool.and_eq_true] at hp
  obtain ⟨G, lo, hi, rfl, hG⟩ := pg_in h0 hp.1
  obtain rfl := h1.int
  obtain rfl := h2.int
  refine (Lists_any w hG a b (wf_iff.1 hp.2.1) (wf_iff.1 hp.2.2)).mono ?_
  rintro e w' ⟨hb, x, rfl, hx⟩
  exact ⟨hb, _, rfl, lists_out hx hU⟩)
theorem enters : Enters Tryd.prog 28 := enters_of (fn := Tryd.f28) (by kernel_rfl) (by kernel_rfl) (by kernel_rfl)
theorem okR : Enters Tryd.prog 28 ∧ Sound Tryd.prog rho 28 sig := ⟨enters, sound⟩
end Lists
open Classical in
noncomputable def parts (G : Gr) (k : List Bool) : List Int := if h : ∃ p, Parted G (kK k) p then Classical.choose h else []
def prsOk (n : Int) (l : List (Int × Int)) : Bool := l.all (fun p => okP n.toNat p)
def inN (n : Int) : Bool := decide (0 ≤ n) && decide (n ≤ 16777216)
namespace Make
abbrev ps : List PM := [.val I64, .val (.list Pr)]
abbrev rs : List PM := [.val (.obj 0), .val I64]
noncomputable def pre (n : Int) (l : List (Int × Int)) : Bool := true
noncomputable def fn (n : Int) (l : List (Int × Int)) : (Option Gr) × Int × Unit := if inN n = true then (if prsOk n l = true then (some (Gr.ofPairs n.toNat l), 0, ()) else (none, 42, ())) else (none, 41, ())
noncomputable def sig : Sig := ⟨ps, rs, fun d => match d with
  | (n, l, _) => pre n l, fun d => match d with
  | (n, l, _) => fn n l, true⟩
theorem sound : Sound Tryd.prog rho 51 sig := sound22 (fun (n : Int) (l : List (Int × Int)) hp w U U' v0 v1 hU h0 h1 => by
  obtain rfl := h0.int
  by_cases hn : inN n = true
  · have hn' : 0 ≤ n ∧ n ≤ 16777216 := by simpa [inN] using hn
    obtain ⟨m, rfl⟩ := Int.eq_ofNat_of_zero_le hn'.1
    refine (Make_in w m (by omega) (prs_in h1)).mono ?_
    rintro e w' ⟨hb, hx, hy⟩
    by_cases hc : prsOk (m : Int) l = true
    · obtain ⟨x, rfl, hx2⟩ := hx (fun p h => List.all_eq_true.1 hc p h)
      rw [fn, if_pos hn, if_pos hc]
      exact ⟨hb, _, _, rfl, pg_out hx2 hU, int_out 0⟩
    · obtain rfl := hy (by
        simp only [prsOk, List.all_eq_true, Classical.not_forall] at hc
        obtain ⟨d, hd, hk⟩ := hc
        exact ⟨d, hd, by simpa using hk⟩)
      rw [fn, if_pos hn, if_neg hc]
      exact ⟨hb, _, _, rfl, nil_out, int_out 42⟩
  · refine (Make_out w n v1 (by simp [inN] at hn; omega)).mono ?_
    rintro e w' ⟨rfl, hb⟩
    rw [fn, if_neg hn]
    exact ⟨hb, _, _, rfl, nil_out, int_out 41⟩)
theorem enters : Enters Tryd.prog 51 := enters_of (fn := Tryd.f51) (by kernel_rfl) (by kernel_rfl) (by kernel_rfl)
theorem okR : Enters Tryd.prog 51 ∧ Sound Tryd.prog rho 51 sig := ⟨enters, sound⟩
end Make
end Go.Proofs.YthbojpaghbbnnaaDoor.Z
namespace Go.Proofs.YthbojpaghbbnnaaDoor.Kx
open Go Go.ChangeShapes Go.WideShapes Go.ChangeAt Go.RowKit
set_option linter.unusedVariables false
def laidT : List (String × DataW Unit) := [("math/bits.deBruijn64tab", Rows.laid_math_bits_deBruijn64tab)]
theorem gTab : Tryd.prog.globalNamed "math/bits.deBruijn64tab" = some 0 := by kernel_rfl
theorem tTab : (Tryd.prog.globals[0]?).map (·.type) = some 118 := by kernel_rfl
theorem door_met (os : Os) (args : Array Value) : laidMetH Tryd.prog laidT ((World.doorLaid Tryd.prog 200 os).forCall (fun _ _ => 0) ⟨#[], args, []⟩).memory :=
  laidMetH_of_parts3 (fuel := 8) (laidMet_of_run' 8 (by kernel_rfl) (by kernel_rfl)) (by kernel_rfl) (by kernel_rfl)
theorem tab_data : ∃ l : List (DataW Unit), (Rows.laid_math_bits_deBruijn64tab : DataW Unit) = .agg l ∧ l.length = 64 ∧ ∀ j, j < 64 → l[j]? = some (.lit (.int .u8 ((Lib.deBruijn64tab.getD j 0 : Nat) : Int))) := by
  unfold Rows.laid_math_bits_deBruijn64tab
  refine ⟨_, rfl, rfl, ?_⟩
  intro j hj
  match j, hj with
  | j, hj =>
    have : ∀ j, j < 64 → Lib.deBruijn64tab.getD j 0 < 256 := by decide +kernel
    revert j
    intro j hj
    rcases j with _ | _ | _ | _ | _ | _ | _ | _ | _ | _ | _ | _ | _ | _ | _ | _ | _ | _ | _ | _ | _ | _ | _ | _ | _ | _ | _ | _ | _ | _ | _ | _ | _ | _ | _ | _ | _ | _ | _ | _ | _ | _ | _ | _ | _ | _ | _ | _ | _ | _ | _ | _ | _ | _ | _ | _ | _ | _ | _ | _ | _ | _ | _ | _ | j
    all_goals first | rfl | omega
theorem kw_of_laid {W : World} (h : laidMetH Tryd.prog laidT W) : Z.Kw W := by
  rw [MakeChecks.laidMetH_plain _ _ _ (by kernel_rfl)] at h
  obtain ⟨ps, ⟨g0, t0, cs0, f0, p0, q0, hg0, ht0, hv0, hd0, _, _⟩, _, _⟩ := h
  obtain rfl := Option.some.inj (gTab.symm.trans hg0)
  obtain rfl := Option.some.inj (tTab.symm.trans ht0)
  obtain ⟨xs, m, rfl, hx, hlen, hn, hel⟩ := DataW.trod_array Tryd.underlying118 hd0
  obtain ⟨l, hl, hll, hlj⟩ := tab_data
  rw [hl] at hx
  simp only [Prod.mk.injEq, DataW.agg.injEq] at hx
  obtain ⟨hx, _⟩ := hx
  have c1 : Tryd.prog.cellsOf 5 = 1 := by kernel_rfl
  intro j hj
  have hj : j < 64 := hj
  have h0 := hel j hj
  rw [c1] at h0
  have hxj : j < xs.length := by omega
  rw [List.getElem?_eq_getElem hxj] at h0
  obtain ⟨k, e1, e2, _⟩ := DataW.trod_int Tryd.underlying5 h0
  have e3 := hlj j hj
  rw [hx, List.getElem?_map, List.getElem?_eq_getElem hxj, e2] at e3
  simp only [Option.map_some, Option.some.injEq, DataW.lit.injEq, Lit.int.injEq, true_and] at e3
  subst e3
  have e4 := World.var?_cell hg0 hv0 j
  rw [e4]
  have e5 : (List.take 1 (List.drop (j * 1) cs0.toList))[0]? = some (Value.int .u8 ((Lib.deBruijn64tab.getD j 0 : Nat) : Int)) := by rw [e1]; rfl
  rw [List.getElem?_take, if_pos (by decide), List.getElem?_drop, Nat.mul_one, Nat.add_zero, Array.getElem?_toList] at e5
  exact e5
theorem kok_of_laid {W : World} (h : laidMetH Tryd.prog laidT W) : Z.KOk Z.rho (fun _ => False) W := fun w' q => by
  have k := kw_of_laid h
  show Z.Kw w'
  intro j hj
  have e := k j hj
  rw [← e]
  exact World.cell?_of_block (w := W) (a := ⟨0, j, none⟩) (q.block 0 (Z.cell_lt e) (fun x => x))
end Go.Proofs.YthbojpaghbbnnaaDoor.Kx
namespace Go.Proofs.YthbojpaghbbnnaaDoor
open Go.RowKit
set_option linter.unusedVariables false
set_option linter.unusedSimpArgs false
theorem take_eq_step {α : Type} {xs ys : List α} {k : Nat} {x y : α} (h : xs.take k = ys.take k) (hx : xs[k]? = some x) (hy : ys[k]? = some y) (e : x = y) : xs.take (k + 1) = ys.take (k + 1) := by
  rw [take_snoc' hx, take_snoc' hy, h, e]
theorem ne_of_get {α : Type} {xs ys : List α} {k : Nat} {x y : α} (hx : xs[k]? = some x) (hy : ys[k]? = some y) (e : x ≠ y) : xs ≠ ys := by
  rintro rfl
  rw [hx] at hy
  injection hy with hy
  exact e hy
theorem eq_of_take {α : Type} {xs ys : List α} {k : Nat} (h : xs.take k = ys.take k) (hx : xs.length ≤ k) (hy : ys.length ≤ k) : xs = ys := by
  rwa [List.take_of_length_le hx, List.take_of_length_le hy] at h
set_option maxRecDepth 100000 in
set_option maxHeartbeats 2000000 in
theorem SameInts_any (w : World) {lo hi lo' hi' : Nat} {a b : Value} {xs ys : List Int} (ha : Ints w lo hi a xs) (hb : Ints w lo' hi' b ys) :
    Calls Tryd.prog 21 #[a, b] w fun e w' => e = .returned (.bool (decide (xs = ys))) ∧ Below w.heap.size w w' := by
  obtain ⟨hl1, A, c, rfl⟩ := ha.form
  obtain ⟨hl2, B, d, rfl⟩ := hb.form
  by_cases hl : xs.length = ys.length
  · have Hl := Lib.hid hl
    have hl3 : xs.length ≤ ys.length := by omega
    have hne : (((xs.length : Nat) : Int) != (ys.length : Int)) = false := by simp [hl]
    clear hl
    go_enter Tryd.func21, Tryd.ntmps21
    go_wp2
    go_loopw [5] (fun i wr => ∃ k : Nat, k ≤ xs.length ∧ i = .int .i64 k ∧ Hid (∃ nq, wr = w.drewN nq) ∧ Hid (xs.take k = ys.take k)) (fun i _ => xs.length - (intOf i).toNat)
    case atStart => exact ⟨0, by omega, rfl, ⟨0, rfl⟩, by simp [Hid]⟩
    case round =>
      obtain ⟨k, hk, rfl, HQ, HJ⟩ := hrel
      obtain ⟨nq, rfl⟩ := HQ.out
      clear HQ
      by_cases hlt : k < xs.length
      · obtain ⟨b, off, x, rfl, _, _, g1, X⟩ := ha.get k hlt
        obtain ⟨b', off', y, rfl, _, _, g2, Y⟩ := hb.get k (by omega)
        by_cases he0 : x = y
        · have hq0 : (x == y) = true := by simp [he0]
          have E0 := Lib.hid he0
          clear he0
          have hst := take_eq_step HJ.out X.out Y.out (by rw [E0.out])
          have HJ' := Lib.hid hst
          clear hst X Y
          go_wp2
          go_quiet (fail)
          go_wp2
          go_roundw
          case rel => exact ⟨k + 1, by omega, by go_num, ⟨_, rfl⟩, HJ'⟩
          case measure => simp [intOf]; omega
        · have hq0 : (x == y) = false := by simp [he0]
          have hd : decide (xs = ys) = false := decide_eq_false (ne_of_get X.out Y.out he0)
          have hd' := Lib.hid hd
          clear hd he0 X Y
          go_wp2
          go_quiet (fail)
          go_wp2
          go_ret
          exact ⟨by rw [hd'.out]; rfl, below_drewN (below_drewN (Below.refl _ _) _) _⟩
      · have hd : decide (xs = ys) = true := decide_eq_true (eq_of_take HJ.out (by omega) (by have := Hl.out; omega))
        have hd' := Lib.hid hd
        clear hd
        go_wp2
        go_ret
        exact ⟨by rw [hd'.out]; rfl, below_drewN (Below.refl _ _) _⟩
  · have hne : (((xs.length : Nat) : Int) != (ys.length : Int)) = true := by simp; omega
    have hd : decide (xs = ys) = false := decide_eq_false (by intro h; exact hl (by rw [h]))
    have hd' := Lib.hid hd
    clear hd hl
    go_enter Tryd.func21, Tryd.ntmps21
    go_wp2
    go_ret
    exact ⟨by rw [hd'.out]; rfl, Below.refl _ _⟩
set_option maxRecDepth 100000 in
set_option maxHeartbeats 2000000 in
theorem RInts_any (w : World) {lo hi : Nat} {a : Value} {xs : List Int} (ha : Ints w lo hi a xs) (hx : xs.length * 8 ≤ 140737488351232) :
    Calls Tryd.prog 24 #[a] w fun e w' => Below w.heap.size w w' ∧ ∃ v, e = .returned v ∧ Own1 w' w.heap.size 3 (Value.int .i64) v xs := by
  obtain ⟨hl1, A, c, rfl⟩ := ha.form
  have HX := Lib.hid hx
  clear hx
  go_enter Tryd.func24, Tryd.ntmps24
  go_wp2_with (at_make; refine mk_cap (W := w) w.heap.size rfl _ _ 22 3 _ 1 8 rfl Tryd.underlying22 infoInt (by decide) _ xs.length rfl rfl rfl (by have := HX.out; omega) (Nat.le_refl _) ?_; intro w1 hown hgr; have hb := (Below.refl w.heap.size w).grown hgr (Nat.le_refl _) (by simp); clear hgr)
  go_loopw [3, 4] (fun v i wr => ∃ k : Nat, k ≤ xs.length ∧ i = .int .i64 k ∧ Below w.heap.size w wr ∧ wr.ownsRow w.heap.size 3 1 v k ((xs.take k).map (Value.int .i64))) (fun _ i _ => xs.length - (intOf i).toNat)
  case atStart => exact ⟨0, by omega, rfl, hb, hown⟩
  case round =>
    clear hb hown
    obtain ⟨k, hk, rfl, hb, hown⟩ := hrel
    by_cases hlt : k < xs.length
    · obtain ⟨b, off, x, rfl, _, _, g1, X⟩ := (ha.at_ hb).get k hlt
      go_wp2_with (at_builtin; refine app_one w.heap.size rfl (.tmp 14) (.tmp 19) 22 3 _ 1 8 rfl Tryd.underlying22 infoInt rfl (by decide) (by decide) _ k _ #[.int .i64 x] rfl rfl rfl (by simp [Value.oneCell']) hown hb.size (by have := HX.out; omega) ?_; intro v1 w1 hown1 hg1 _; have hb1 := below_app hb hown hg1 (Nat.le_refl _); clear hg1)
      go_roundw
      case rel => exact ⟨k + 1, by omega, by go_num, hb1, by rw [take_snoc' X.out, List.map_append]; exact hown1⟩
      case measure => simp [intOf]; omega
    · go_wp2
      go_ret
      obtain rfl : k = xs.length := by omega
      rw [List.take_length] at hown
      exact ⟨hb, _, rfl, hown⟩
set_option maxRecDepth 100000 in
set_option maxHeartbeats 2000000 in
theorem SameBools_any (w : World) {lo hi lo' hi' : Nat} {a b : Value} {xs ys : List Bool} (ha : Bools w lo hi a xs) (hb : Bools w lo' hi' b ys) :
    Calls Tryd.prog 36 #[a, b] w fun e w' => e = .returned (.bool (decide (xs = ys))) ∧ Below w.heap.size w w' := by
  obtain ⟨hl1, A, c, rfl⟩ := ha.form
  obtain ⟨hl2, B, d, rfl⟩ := hb.form
  by_cases hl : xs.length = ys.length
  · have Hl := Lib.hid hl
    have hl3 : xs.length ≤ ys.length := by omega
    have hne : (((xs.length : Nat) : Int) != (ys.length : Int)) = false := by simp [hl]
    clear hl
    go_enter Tryd.func36, Tryd.ntmps36
    go_wp2
    go_loopw [5] (fun i wr => ∃ k : Nat, k ≤ xs.length ∧ i = .int .i64 k ∧ Hid (∃ nq, wr = w.drewN nq) ∧ Hid (xs.take k = ys.take k)) (fun i _ => xs.length - (intOf i).toNat)
    case atStart => exact ⟨0, by omega, rfl, ⟨0, rfl⟩, by simp [Hid]⟩
    case round =>
      obtain ⟨k, hk, rfl, HQ, HJ⟩ := hrel
      obtain ⟨nq, rfl⟩ := HQ.out
      clear HQ
      by_cases hlt : k < xs.length
      · obtain ⟨b, off, x, rfl, _, _, g1, X⟩ := ha.get k hlt
        obtain ⟨b', off', y, rfl, _, _, g2, Y⟩ := hb.get k (by omega)
        by_cases he0 : x = y
        · have hq0 : (x == y) = true := by simp [he0]
          have E0 := Lib.hid he0
          clear he0
          have hst := take_eq_step HJ.out X.out Y.out (by rw [E0.out])
          have HJ' := Lib.hid hst
          clear hst X Y
          go_wp2
          go_quiet (fail)
          go_wp2
          go_roundw
          case rel => exact ⟨k + 1, by omega, by go_num, ⟨_, rfl⟩, HJ'⟩
          case measure => simp [intOf]; omega
        · have hq0 : (x == y) = false := by simp [he0]
          have hd : decide (xs = ys) = false := decide_eq_false (ne_of_get X.out Y.out he0)
          have hd' := Lib.hid hd
          clear hd he0 X Y
          go_wp2
          go_quiet (fail)
          go_wp2
          go_ret
          exact ⟨by rw [hd'.out]; rfl, below_drewN (below_drewN (Below.refl _ _) _) _⟩
      · have hd : decide (xs = ys) = true := decide_eq_true (eq_of_take HJ.out (by omega) (by have := Hl.out; omega))
        have hd' := Lib.hid hd
        clear hd
        go_wp2
        go_ret
        exact ⟨by rw [hd'.out]; rfl, below_drewN (Below.refl _ _) _⟩
  · have hne : (((xs.length : Nat) : Int) != (ys.length : Int)) = true := by simp; omega
    have hd : decide (xs = ys) = false := decide_eq_false (by intro h; exact hl (by rw [h]))
    have hd' := Lib.hid hd
    clear hd hl
    go_enter Tryd.func36, Tryd.ntmps36
    go_wp2
    go_ret
    exact ⟨by rw [hd'.out]; rfl, Below.refl _ _⟩
end Go.Proofs.YthbojpaghbbnnaaDoor
namespace Go.Proofs.YthbojpaghbbnnaaDoor
open Go.RowKit
set_option linter.unusedVariables false
set_option linter.unusedSimpArgs false
theorem bl (w : World) (o : Obj) : Below w.heap.size w (w.alloc o) := (Below.refl _ _).alloc (Nat.le_refl _) o
theorem PG.ptr {w : World} {lo hi : Nat} {g : Value} {G : Gr} (h : PG w lo hi g G) : ∃ b, g = .pointer (some ⟨b, 0, none⟩) := by
  obtain ⟨b, _, _, _, _, e, _⟩ := h.open_
  exact ⟨b, e⟩
end Go.Proofs.YthbojpaghbbnnaaDoor
namespace Go.Proofs.YthbojpaghbbnnaaDoor.Z
open Go Go.RowKit
set_option linter.unusedVariables false
set_option linter.unusedSimpArgs false
section
variable {ρ : Obs} {P : Program} {f : FuncId}
theorem apart1 (v : Value) : Apart 1 (fun _ => v) := fun i j hi hj hne => absurd (show i = j by omega) hne
theorem sound01 {fr : Bool} {r : T} {pre : Bool} {fn : r.den × Unit} (h : pre = true → ∀ w U, (∀ b, U b → b < w.heap.size) → Calls P f #[] w (Res1 ρ U w r fn.1)) : Sound P ρ f ⟨[], [.val r], fun d => match d with | _ => pre, fun d => match d with | _ => fn, fr⟩ := by
  intro d hp w U0 U1 hd0 vs hu hu1 hfr hap hK ha
  match vs, ha with
  | [], _ =>
    refine (h hp w U1 (fun b hb => (hu1 b hb).1)).mono ?_
    rintro e w' ⟨hb, u, rfl, hr⟩
    exact ⟨[u], hd0, rfl, Ag.of_below hb _, fun _ hi => absurd hi (Nat.not_lt_zero _), fun _ hi => absurd hi (Nat.not_lt_zero _), apart0 _, trivial, hr.tr (tr0' w'), trivial⟩
/-- A copy in new memory, which is the caller's. -/
theorem sound1o {fr : Bool} {t r : T} {e : TypeId} {pre : t.den → Bool} {fn : t.den → List r.den × Unit} (enc : r.den → List Value) (he : ∀ U w x, ICs ρ U w r (enc x) x)
    (h : ∀ x, pre x = true → ∀ w U v, (∀ b, U b → b < w.heap.size) → IRd ρ U w t v x → Calls P f #[v] w fun e' w' => Below w.heap.size w w' ∧ ∃ u, e' = .returned u ∧ w'.ownsRow w.heap.size e r.size u (fn x).1.length ((fn x).1.flatMap enc)) :
    Sound P ρ f ⟨[.val t], [.own e r], fun d => match d with | (x, _) => pre x, fun d => match d with | (x, _) => fn x, fr⟩ := by
  intro d hp w U0 U1 hd0 vs hu hu1 hfr hap hK ha
  obtain ⟨x, _⟩ := d
  match vs, ha with
  | [v], ⟨h1, _⟩ =>
    refine (h x hp w U0 v (fun b hb => (hu b hb).1) (h1.tr (tr0 w))).mono ?_
    rintro e' w' ⟨hb, u, rfl, hr⟩
    exact ⟨[u], fun _ => u, rfl, Ag.of_below hb _, fun i hi => absurd hi (Nat.not_lt_zero i), fun i hi => absurd hi (Nat.not_lt_zero i), apart1 u, trivial, rfl, ⟨_, hr, flat_els (fun x => he _ _ x) _⟩, trivial⟩
end
namespace SameIntsH
abbrev ps : List PM := [.val (.list I64), .val (.list I64)]
abbrev rs : List PM := [.val .bool]
noncomputable def pre (a : List Int) (b : List Int) : Bool := true
noncomputable def fn (a : List Int) (b : List Int) : Bool × Unit := (decide (a = b), ())
noncomputable def sig : Sig := ⟨ps, rs, fun d => match d with
  | (a, b, _) => pre a b, fun d => match d with
  | (a, b, _) => fn a b, false⟩
theorem sound : Sound Tryd.prog rho 21 sig := sound21 (fun (a : List Int) (b : List Int) hp w U U' v0 v1 hU h0 h1 => by
  refine (SameInts_any w (ints_in h0) (ints_in h1)).mono ?_
  rintro e w' ⟨rfl, hb⟩
  exact ⟨hb, _, rfl, bool_out _⟩)
theorem enters : Enters Tryd.prog 21 := enters_of (fn := Tryd.f21) (by kernel_rfl) (by kernel_rfl) (by kernel_rfl)
theorem okR : Enters Tryd.prog 21 ∧ Sound Tryd.prog rho 21 sig := ⟨enters, sound⟩
end SameIntsH
namespace SameBools
abbrev ps : List PM := [.val (.list .bool), .val (.list .bool)]
abbrev rs : List PM := [.val .bool]
noncomputable def pre (a : List Bool) (b : List Bool) : Bool := true
noncomputable def fn (a : List Bool) (b : List Bool) : Bool × Unit := (decide (a = b), ())
noncomputable def sig : Sig := ⟨ps, rs, fun d => match d with
  | (a, b, _) => pre a b, fun d => match d with
  | (a, b, _) => fn a b, false⟩
theorem sound : Sound Tryd.prog rho 36 sig := sound21 (fun (a : List Bool) (b : List Bool) hp w U U' v0 v1 hU h0 h1 => by
  refine (SameBools_any w (bools_in h0) (bools_in h1)).mono ?_
  rintro e w' ⟨rfl, hb⟩
  exact ⟨hb, _, rfl, bool_out _⟩)
theorem enters : Enters Tryd.prog 36 := enters_of (fn := Tryd.f36) (by kernel_rfl) (by kernel_rfl) (by kernel_rfl)
theorem okR : Enters Tryd.prog 36 ∧ Sound Tryd.prog rho 36 sig := ⟨enters, sound⟩
end SameBools
namespace IntsV
abbrev ps : List PM := [.val (.list I64)]
abbrev rs : List PM := [.val (.list I64)]
noncomputable def pre (a : List Int) : Bool := decide (a.length * 8 ≤ 140737488351232)
noncomputable def fn (a : List Int) : (List Int) × Unit := (a, ())
noncomputable def sig : Sig := ⟨ps, rs, fun d => match d with
  | (a, _) => pre a, fun d => match d with
  | (a, _) => fn a, true⟩
theorem sound : Sound Tryd.prog rho 24 sig := sound11 (fun (a : List Int) hp w U U' v0 hU h0 => by
  refine (RInts_any w (ints_in h0) (of_decide_eq_true hp)).mono ?_
  rintro e w' ⟨hb, u, rfl, hu⟩
  exact ⟨hb, u, rfl, ints_out hu rfl hU⟩)
theorem enters : Enters Tryd.prog 24 := enters_of (fn := Tryd.f24) (by kernel_rfl) (by kernel_rfl) (by kernel_rfl)
theorem okR : Enters Tryd.prog 24 ∧ Sound Tryd.prog rho 24 sig := ⟨enters, sound⟩
end IntsV
end Go.Proofs.YthbojpaghbbnnaaDoor.Z
namespace Go.Proofs.YthbojpaghbbnnaaDoor
open Go.RowKit
set_option linter.unusedVariables false
set_option linter.unusedSimpArgs false
/-- What stands from place h on, added up. -/
def sfx (cs : List Int) (h : Nat) : Int := Hx.sum (cs.drop h)
theorem sfx_step {cs : List Int} {h : Nat} {y : Int} (hy : cs[h]? = some y) : sfx cs h = sfx cs (h + 1) + y := by
  obtain ⟨hlt, e⟩ := List.getElem?_eq_some_iff.1 hy
  unfold sfx
  rw [List.drop_eq_getElem_cons hlt, e]
  simp only [Hx.sum, List.foldr_cons]
  omega
theorem sfx_out {cs : List Int} {h : Nat} (hh : cs.length ≤ h) : sfx cs h = 0 := by
  unfold sfx
  rw [List.drop_eq_nil_of_le hh]
  rfl
def lowOf (cs : List Int) : Nat → Nat
  | 0 => 0
  | h + 1 => if sfx cs (h + 1) ≥ ((h + 1 : Nat) : Int) then h + 1 else lowOf cs h
end Go.Proofs.YthbojpaghbbnnaaDoor
namespace Go.Proofs.YthbojpaghbbnnaaDoor
open Go.RowKit
set_option linter.unusedVariables false
set_option linter.unusedSimpArgs false
theorem count_split {α : Type} (l : List α) (f : α → Nat) (h : Nat) : l.countP (fun x => decide (h ≤ f x)) = l.countP (fun x => decide (h + 1 ≤ f x)) + l.countP (fun x => decide (f x = h)) := by
  induction l with
  | nil => rfl
  | cons x l ih =>
    simp only [List.countP_cons, ih, decide_eq_true_eq]
    by_cases h1 : h + 1 ≤ f x
    · rw [if_pos (show h ≤ f x by omega), if_pos h1, if_neg (show ¬ f x = h by omega)]
      omega
    · by_cases h2 : f x = h
      · rw [if_pos (show h ≤ f x by omega), if_neg h1, if_pos h2]
        omega
      · rw [if_neg (show ¬ h ≤ f x by omega), if_neg h1, if_neg h2]
        omega
theorem sfx_bins (M : Nat) (xs : List Int) : ∀ d h : Nat, h + d = M + 1 → sfx (bins M xs) h = ((xs.countP (fun x => decide (h ≤ clampN M x)) : Nat) : Int)
  | 0, h, e => by
    rw [sfx_out (by rw [bins_len]; omega)]
    have : xs.countP (fun x => decide (h ≤ clampN M x)) = 0 := List.countP_eq_zero.2 (fun x _ => by have := clampN_le M x; simp; omega)
    rw [this]; rfl
  | d + 1, h, e => by
    rw [sfx_step (bins_get M xs h (by omega)), sfx_bins M xs d (h + 1) (by omega), count_split xs (clampN M) h]
    omega
theorem sfx_over {M : Nat} {xs : List Int} {h : Nat} (h0 : 1 ≤ h) (h1 : h ≤ M) : sfx (bins M xs) h = Hx.over xs (h : Int) := by
  rw [sfx_bins M xs (M + 1 - h) h (by omega), Hx.over]
  congr 2
  funext x
  refine decide_eq_decide.2 ?_
  unfold clampN
  omega
theorem lowOf_is (M : Nat) (xs : List Int) : ∀ m : Nat, m ≤ M → Hx.IsH xs (m : Int) (lowOf (bins M xs) m : Nat)
  | 0, _ => ⟨Int.natCast_nonneg _, .inl rfl, Hx.over_nonneg _ _, fun h' a b _ => by omega⟩
  | m + 1, hm => by
    have ih := lowOf_is M xs m (by omega)
    have hs := sfx_over (xs := xs) (h := m + 1) (M := M) (by omega) hm
    unfold lowOf
    split
    · rename_i h
      rw [hs] at h
      exact ⟨Int.natCast_nonneg _, .inr (Int.le_refl _), h, fun _ _ b _ => b⟩
    · rename_i h
      rw [hs] at h
      refine ⟨ih.nonneg, ih.most.imp id (fun k => by omega), ih.holds, fun h' a b c => ?_⟩
      by_cases e : h' = ((m + 1 : Nat) : Int)
      · subst e; exact absurd c h
      · exact ih.best h' a (by omega) c
theorem bins_bound (m : Nat) (xs : List Int) : ∀ x ∈ bins m xs, 0 ≤ x ∧ x ≤ (xs.length : Int) := fun x hx => by
  simp only [bins, List.mem_map] at hx
  obtain ⟨k, _, rfl⟩ := hx
  have := List.countP_le_length (p := fun x => decide (clampN m x = k)) (l := xs)
  omega
end Go.Proofs.YthbojpaghbbnnaaDoor
namespace Go.Proofs.YthbojpaghbbnnaaDoor
open Go.RowKit
set_option linter.unusedVariables false
set_option linter.unusedSimpArgs false
theorem infoBoolC : (Tryd.prog.info? 4).map (fun i => (i.zero, i.size, i.bytes)) = some (some (.bool false), 1, 1) := by kernel_rfl
theorem step_make {P : Program} {W : World} {ops : Array Oper} {o : Oper} {a : Act} {K : Act → World → Prop} {Q : Exit → Act → World → Prop} {E : Prop} (base : Nat)
    (hg : o.guard = none) (l c : Operand) (t e : TypeId) (z : Value) (bytes : Nat) (hop : o.op = Op.makeSlice t l c)
    (ht : P.underlying t = some (.slice e)) (hinfo : (P.info? e).map (fun i => (i.zero, i.size, i.bytes)) = some (some z, 1, bytes)) (hz : z.cells = #[z]) (hb0 : 0 < bytes)
    (L C : Int) (n : Nat) (hl : a.eval l = .int .i64 L) (hc : a.eval c = .int .i64 C) (hL : L = (n : Int)) (hC : C = (n : Int)) (hn : n * bytes ≤ 140737488355328) (hB : base ≤ W.heap.size)
    (hK : ∀ w', w'.ownsRow base e 1 (.slice (some ⟨W.heap.size, 0, none⟩) n n) n (List.replicate n z) → W.grownBy w' none → K (a.put o.dst (.slice (some ⟨W.heap.size, 0, none⟩) n n)) w') :
    if Region.wanted o (yielded ops a.tmps) = true then Oper.wp P o a W K Q else E := by
  obtain ⟨i0, hi, hzz⟩ := Option.map_eq_some_iff.1 hinfo
  simp only [Prod.mk.injEq] at hzz
  obtain ⟨hz0, hz1, hz2⟩ := hzz
  have hm : n ≤ 140737488355328 := Nat.le_trans (Nat.le_mul_of_pos_right _ hb0) hn
  have hw : Region.wanted o (yielded ops a.tmps) = true := by simp [Region.wanted, hg]
  rw [if_pos hw]
  obtain ⟨w', hrun, r1, r2⟩ := run_make_full (P := P) W base t e i0 z 1 ht hi hz0 hz1 .i64 .i64 n (by rw [hz2, Nat.mul_comm]; omega) (by unfold maxLen; omega) hB
  subst hL
  subst hC
  unfold Oper.wp
  simp [execOp, hop, hl, hc, hrun, Result.andThen]
  refine hK w' ?_ r2
  rw [hz, madeCells_one] at r1
  exact r1
theorem getD_of {l : List Int} {x : Nat} {a : Int} (h : l[x]? = some a) : l.getD x 0 = a := by rw [List.getD_eq_getElem?_getD, h]; rfl
theorem own_same {α : Type} {f : α → Value} {w w' : World} {base g n c : Nat} {e : TypeId} {xs : List α} (h : Own1 w base e f (.slice (some ⟨g, 0, none⟩) n c) xs) (hg : w'.heap[g]? = w.heap[g]?) : Own1 w' base e f (.slice (some ⟨g, 0, none⟩) n c) xs := by
  rcases h with ⟨h1, h2 | ⟨g', cap, cur, e1, e2, e3, e4⟩⟩
  · exact ⟨h1, .inl h2⟩
  · refine ⟨h1, .inr ⟨g', cap, cur, e1, e2, ?_, e4⟩⟩
    injection e1 with e1
    injection e1 with e1
    injection e1 with e1
    subst e1
    exact hg.trans e3
theorem rows_kept2 {w w' : World} {base tb n : Nat} {T : Nat → List Int} {vs : List Value} {row : Option Nat} (h : RowsAt w base tb n T vs) (hg : w.grownBy w' row) (h1 : some tb ≠ row) (h2 : ∀ (j : Nat) (x : Value), vs[j]? = some x → x.ownBlock = none ∨ x.ownBlock ≠ row) : RowsAt w' base tb n T vs := by
  obtain ⟨a, b, c, d⟩ := h
  refine ⟨a, (hg.block tb (Array.getElem?_eq_some_iff.1 b).1 h1).trans b, fun i hi => ?_, d⟩
  obtain ⟨x, hx, hxo⟩ := c i hi
  exact ⟨x, hx, hxo.kept hg (h2 i x hx)⟩
theorem rows_pop {w : World} {base tb n i : Nat} {T : Nat → List Int} {vs : List Value} {A : Option Addr} {m c : Nat} {ys : List Int} {y : Int} (h : RowsAt w base tb n T vs) (hi : i < n) (hx : vs[i]? = some (.slice A m c)) (htb : tb < base) (hT : T i = ys ++ [y]) :
    RowsAt (w.setCell ⟨tb, i, none⟩ (.slice A ys.length c)) base tb n (Hx.updT T i ys) (vs.set i (.slice A ys.length c)) := by
  obtain ⟨h1, h2, h3, h4⟩ := h
  have eo : (Value.slice A ys.length c).ownBlock = (Value.slice A m c).ownBlock := by cases A <;> rfl
  refine ⟨by simpa using h1, set_block h2 _, fun k hk => ?_, fun k l a b hkl ha hb => ?_⟩
  · by_cases hki : k = i
    · subst hki
      obtain ⟨z, hz, hzo⟩ := h3 k hk
      rw [hx] at hz
      cases hz
      rw [hT] at hzo
      have hzo' : Own1 w base 3 (Value.int .i64) (.slice A m c) (ys ++ [y]) := hzo
      refine ⟨_, by rw [List.getElem?_set_self (by omega)], ?_⟩
      have e : Hx.updT T k ys k = ys := by unfold Hx.updT; rw [if_pos rfl]
      rw [e]
      exact ownsRow_setCell_below hzo'.pop htb _
    · obtain ⟨z, hz, hzo⟩ := h3 k hk
      have e : Hx.updT T i ys k = T k := by unfold Hx.updT; rw [if_neg hki]
      rw [e]
      exact ⟨z, by rw [List.getElem?_set_ne (Ne.symm hki)]; exact hz, ownsRow_setCell_below hzo htb _⟩
  · by_cases hki : k = i
    · subst hki
      rw [List.getElem?_set_self (by omega)] at ha
      cases ha
      rw [List.getElem?_set_ne hkl] at hb
      rw [eo]
      exact h4 k l _ b hkl hx hb
    · rw [List.getElem?_set_ne (Ne.symm hki)] at ha
      by_cases hli : l = i
      · subst hli
        rw [List.getElem?_set_self (by omega)] at hb
        cases hb
        rw [eo]
        exact h4 k l a _ hkl ha hx
      · rw [List.getElem?_set_ne (Ne.symm hli)] at hb
        exact h4 k l a b hkl ha hb
abbrev OB (w : World) (base : Nat) (v : Value) (xs : List Bool) : Prop := Own1 w base 4 Value.bool v xs
/-- The memory of peel.Cores behind its buckets. -/
structure CM (w wr : World) (n N lb ab tb gb : Nat) (F : Nat → Prop) (left ats : List Int) (gone : List Bool) (T : Nat → List Int) (vs : List Value) : Prop where
  bel : Below w.heap.size w wr
  l : OI wr w.heap.size (.slice (some ⟨lb, 0, none⟩) n n) left
  a : OI wr w.heap.size (.slice (some ⟨ab, 0, none⟩) n n) ats
  g : OB wr w.heap.size (.slice (some ⟨gb, 0, none⟩) n n) gone
  t : RowsAt wr (tb + 1) tb N T vs
  sz : gb < wr.heap.size
  aw : ∀ (j : Nat) (x : Value), vs[j]? = some x → ∀ b, (b = gb ∨ F b) → x.ownBlock ≠ some b
  fs : ∀ b, F b → b < wr.heap.size
section
variable {w wr : World} {n N lb ab tb gb : Nat} {F : Nat → Prop} {left ats : List Int} {gone : List Bool} {T : Nat → List Int} {vs : List Value}
theorem CM.grow {w' : World} (h : CM w wr n N lb ab tb gb F left ats gone T vs) (hg : wr.grownBy w' none) : CM w w' n N lb ab tb gb F left ats gone T vs where
  bel := h.bel.grown hg h.bel.size (by simp)
  l := h.l.kept hg (.inr (by simp [Value.ownBlock]))
  a := h.a.kept hg (.inr (by simp [Value.ownBlock]))
  g := h.g.kept hg (.inr (by simp [Value.ownBlock]))
  t := rows_kept2 h.t hg (by simp) (fun j x hx => by cases x.ownBlock <;> simp)
  sz := Nat.lt_of_lt_of_le h.sz hg.size
  aw := h.aw
  fs b hb := Nat.lt_of_lt_of_le (h.fs b hb) hg.size
theorem CM.setL (h : CM w wr n N lb ab tb gb F left ats gone T vs) (h1 : lb ≠ ab) (h2 : lb < tb) (h3 : tb < gb) {u : Nat} (hu : u < left.length) (y : Int) : CM w (wr.setCell ⟨lb, u, none⟩ (.int .i64 y)) n N lb ab tb gb F (left.set u y) ats gone T vs where
  bel := h.bel.setCell (by exact (h.l.lt rfl).1) _
  l := h.l.set u hu y
  a := h.a.kept (grown_set _ _ _) (.inr (by simp only [Value.ownBlock]; intro e; injection e with e; exact h1 e.symm))
  g := h.g.kept (grown_set _ _ _) (.inr (by simp only [Value.ownBlock]; intro e; injection e with e; omega))
  t := h.t.kept (grown_set _ _ _) (by simp; omega) (fun k e => by injection e with e; have : lb = k := e; omega)
  sz := by rw [size_setCell]; exact h.sz
  aw := h.aw
  fs b hb := by rw [size_setCell]; exact h.fs b hb
theorem CM.setA (h : CM w wr n N lb ab tb gb F left ats gone T vs) (h1 : lb ≠ ab) (h2 : ab < tb) (h3 : tb < gb) {u : Nat} (hu : u < ats.length) (y : Int) : CM w (wr.setCell ⟨ab, u, none⟩ (.int .i64 y)) n N lb ab tb gb F left (ats.set u y) gone T vs where
  bel := h.bel.setCell (by exact (h.a.lt rfl).1) _
  l := h.l.kept (grown_set _ _ _) (.inr (by simp only [Value.ownBlock]; intro e; injection e with e; exact h1 e))
  a := h.a.set u hu y
  g := h.g.kept (grown_set _ _ _) (.inr (by simp only [Value.ownBlock]; intro e; injection e with e; omega))
  t := h.t.kept (grown_set _ _ _) (by simp; omega) (fun k e => by injection e with e; have : ab = k := e; omega)
  sz := by rw [size_setCell]; exact h.sz
  aw := h.aw
  fs b hb := by rw [size_setCell]; exact h.fs b hb
theorem CM.setG (h : CM w wr n N lb ab tb gb F left ats gone T vs) (h1 : lb < tb) (h2 : ab < tb) (h3 : tb < gb) {u : Nat} (hu : u < gone.length) (y : Bool) : CM w (wr.setCell ⟨gb, u, none⟩ (.bool y)) n N lb ab tb gb F left ats (gone.set u y) T vs where
  bel := h.bel.setCell (by exact (h.g.lt rfl).1) _
  l := h.l.kept (grown_set _ _ _) (.inr (by simp only [Value.ownBlock]; intro e; injection e with e; omega))
  a := h.a.kept (grown_set _ _ _) (.inr (by simp only [Value.ownBlock]; intro e; injection e with e; omega))
  g := h.g.set u hu y
  t := rows_kept2 h.t (grown_set _ _ _) (by simp; omega) (fun j x hx => .inr (h.aw j x hx gb (.inl rfl)))
  sz := by rw [size_setCell]; exact h.sz
  aw := h.aw
  fs b hb := by rw [size_setCell]; exact h.fs b hb
theorem CM.pop (h : CM w wr n N lb ab tb gb F left ats gone T vs) (h1 : lb < tb) (h2 : ab < tb) (h3 : tb < gb) (hw : w.heap.size ≤ tb) {i : Nat} {A : Option Addr} {m c : Nat} {ys : List Int} {y : Int} (hi : i < N) (hx : vs[i]? = some (.slice A m c)) (hT : T i = ys ++ [y]) :
    CM w (wr.setCell ⟨tb, i, none⟩ (.slice A ys.length c)) n N lb ab tb gb F left ats gone (Hx.updT T i ys) (vs.set i (.slice A ys.length c)) where
  bel := h.bel.setCell hw _
  l := h.l.kept (grown_set _ _ _) (.inr (by simp only [Value.ownBlock]; intro e; injection e with e; omega))
  a := h.a.kept (grown_set _ _ _) (.inr (by simp only [Value.ownBlock]; intro e; injection e with e; omega))
  g := h.g.kept (grown_set _ _ _) (.inr (by simp only [Value.ownBlock]; intro e; injection e with e; omega))
  t := rows_pop h.t hi hx (Nat.lt_succ_self _) hT
  sz := by rw [size_setCell]; exact h.sz
  aw j x hjx b hb := by
    by_cases e : i = j
    · subst e
      rw [List.getElem?_set_self (by rw [h.t.1]; exact hi)] at hjx
      cases hjx
      rw [show (Value.slice A ys.length c).ownBlock = (Value.slice A m c).ownBlock by cases A <;> rfl]
      exact h.aw i _ hx b hb
    · rw [List.getElem?_set_ne e] at hjx
      exact h.aw j x hjx b hb
  fs b hb := by rw [size_setCell]; exact h.fs b hb
theorem CM.push {W V : World} (h : CM w W n N lb ab tb gb F left ats gone T vs) (h1 : lb < tb) (h2 : ab < tb) (h3 : tb < gb) (hw : w.heap.size ≤ tb) {j g0 cap : Nat} {x1 : Value} {o : Obj} {y : Int} (hj : j < N) (hx : vs[j]? = some x1)
    (hg : ((W.alloc o).drew).grownBy V x1.ownBlock) (hown : V.ownsRow (tb + 1) 3 1 (.slice (some ⟨g0, 0, none⟩) ((T j).length + 1) cap) ((T j).length + 1) ((T j).map (Value.int .i64) ++ [.int .i64 y])) (hat : x1.ownBlock = some g0 ∨ g0 = W.heap.size + 1) :
    CM w (V.setCell ⟨tb, j, none⟩ (.slice (some ⟨g0, 0, none⟩) ((T j).length + 1) cap)) n N lb ab tb gb F left ats gone (Hx.updT T j (T j ++ [y])) (vs.set j (.slice (some ⟨g0, 0, none⟩) ((T j).length + 1) cap)) := by
  obtain ⟨x', hx', hxo⟩ := h.t.2.2.1 j hj
  rw [hx] at hx'
  cases hx'
  have xb := hxo.lt
  have hsz := h.sz
  have hl := (h.l.lt rfl).2
  have ha := (h.a.lt rfl).2
  have hvs : W.heap.size ≤ V.heap.size := by have := hg.size; simp at this; omega
  have fb : ∀ c, c < W.heap.size → some c ≠ x1.ownBlock → c ≠ tb → (V.setCell ⟨tb, j, none⟩ (.slice (some ⟨g0, 0, none⟩) ((T j).length + 1) cap)).heap[c]? = W.heap[c]? := fun c q1 q2 q3 => (Below.heap_setCell _ _ _ _ q3).trans (far_block hg q1 q2)
  refine ⟨((((h.bel.alloc h.bel.size _).drew).grown hg (by have := h.bel.size; simp; omega) (fun c hc => by have := (xb c hc).1; omega))).setCell (by simp; omega) _, own_same h.l (fb lb hl (fun e => by have := (xb _ e.symm).1; omega) (by omega)), own_same h.a (fb ab ha (fun e => by have := (xb _ e.symm).1; omega) (by omega)), own_same h.g (fb gb hsz (fun e => h.aw j x1 hx gb (.inl rfl) e.symm) (by omega)), h.t.app hj hx (Nat.lt_succ_self _) (by omega) hg hown hat, by rw [size_setCell]; omega, fun q x hqx b hb => ?_, fun b hb => by rw [size_setCell]; have := h.fs b hb; omega⟩
  by_cases e : j = q
  · subst e
    rw [List.getElem?_set_self (by rw [h.t.1]; exact hj)] at hqx
    cases hqx
    rcases hat with hat | hat
    · have := h.aw j x1 hx b hb
      rw [hat] at this
      exact this
    · simp only [Value.ownBlock]
      intro e
      injection e with e
      rcases hb with hb | hb
      · omega
      · have := h.fs b hb
        omega
  · rw [List.getElem?_set_ne e] at hqx
    exact h.aw q x hqx b hb
end
theorem nbs_G {G : Gr} (hG : G.Ok) : Hx.Nbs G.n (fun v => up (G.nb v)) where
  rng v hv u hu := by
    obtain ⟨x, hx, rfl⟩ := List.mem_map.1 hu
    have := hG.rng' ((Gr.mem_nb hG).1 hx)
    omega
  irr v hv h := by
    obtain ⟨x, hx, e⟩ := List.mem_map.1 h
    have : x = v := by omega
    subst this
    have := (Gr.mem_nb hG).1 hx
    rw [hG.irr] at this
    cases this
  symm u v hu hv h := by
    obtain ⟨x, hx, e⟩ := List.mem_map.1 h
    have : x = u := by omega
    subst this
    exact List.mem_map.2 ⟨v, (Gr.mem_nb hG).2 (by rw [hG.symm]; exact (Gr.mem_nb hG).1 hx), rfl⟩
  nodup v hv := by
    show ((G.nb v).map (fun x : Nat => (x : Int))).Nodup
    refine List.pairwise_map.2 ?_
    exact (List.Pairwise.filter _ List.nodup_range).imp (fun h e => h (by omega))
theorem sum_le_getD (l : List Int) {m : Int} (h : ∀ u, u < l.length → l.getD u 0 ≤ m) : l.sum ≤ l.length * m := by
  induction l with
  | nil => simp
  | cons x l ih =>
    have h1 := h 0 (by simp)
    have h2 := ih (fun u hu => by have := h (u + 1) (by simpa using hu); simpa using this)
    simp only [List.getD_cons_zero] at h1
    simp only [List.sum_cons, List.length_cons, Int.natCast_add, Int.natCast_one, Int.add_mul, Int.one_mul]
    omega
theorem sum_ge_getD (l : List Int) (h : ∀ u, u < l.length → 0 ≤ l.getD u 0) : 0 ≤ l.sum := by
  induction l with
  | nil => simp
  | cons x l ih =>
    have h1 := h 0 (by simp)
    have h2 := ih (fun u hu => by have := h (u + 1) (by simpa using hu); simpa using this)
    simp only [List.getD_cons_zero] at h1
    simp only [List.sum_cons]
    omega
theorem own_slice' {w : World} {base sz n : Nat} {e : TypeId} {v : Value} {xs : List Value} (h : w.ownsRow base e sz v n xs) : ∃ A c, v = .slice A n c := by
  rcases h.2 with ⟨rfl, rfl⟩ | ⟨g, cap, cur, rfl, _⟩
  · exact ⟨_, _, rfl⟩
  · exact ⟨_, _, rfl⟩
theorem own_same' {α : Type} {f : α → Value} {w w' : World} {base : Nat} {e : TypeId} {v : Value} {xs : List α} (h : Own1 w base e f v xs) (hg : ∀ b, v.ownBlock = some b → w'.heap[b]? = w.heap[b]?) : Own1 w' base e f v xs := by
  rcases h with ⟨h1, h2 | ⟨g', cap, cur, e1, e2, e3, e4⟩⟩
  · exact ⟨h1, .inl h2⟩
  · exact ⟨h1, .inr ⟨g', cap, cur, e1, e2, (hg g' (by rw [e1]; rfl)).trans e3, e4⟩⟩
theorem CM.newF {W W' : World} {w : World} {n N lb ab tb gb : Nat} {left ats : List Int} {gone : List Bool} {T : Nat → List Int} {vs : List Value} (h : CM w W n N lb ab tb gb (fun _ => False) left ats gone T vs) (hg : W.grownBy W' none) (F : Nat → Prop) (hF : ∀ b, F b → W.heap.size ≤ b ∧ b < W'.heap.size) : CM w W' n N lb ab tb gb F left ats gone T vs := by
  have h2 := h.grow hg
  refine ⟨h2.bel, h2.l, h2.a, h2.g, h2.t, h2.sz, fun j x hx b hb => ?_, fun b hb => (hF b hb).2⟩
  rcases hb with hb | hb
  · exact h.aw j x hx b (.inl hb)
  · intro e
    obtain ⟨x', hx', hxo⟩ := h.t.2.2.1 j (by rw [← h.t.1]; exact (List.getElem?_eq_some_iff.1 hx).1)
    rw [hx] at hx'
    cases hx'
    have := (hxo.lt _ e).2
    have := (hF b hb).1
    omega
theorem CM.dropF {W : World} {w : World} {n N lb ab tb gb : Nat} {F : Nat → Prop} {left ats : List Int} {gone : List Bool} {T : Nat → List Int} {vs : List Value} (h : CM w W n N lb ab tb gb F left ats gone T vs) : CM w W n N lb ab tb gb (fun _ => False) left ats gone T vs :=
  ⟨h.bel, h.l, h.a, h.g, h.t, h.sz, fun j x hx b hb => h.aw j x hx b (.inl (hb.elim id False.elim)), fun b hb => hb.elim⟩
theorem CM.push_block {w W V : World} {n N lb ab tb gb : Nat} {F : Nat → Prop} {left ats : List Int} {gone : List Bool} {T : Nat → List Int} {vs : List Value} (h : CM w W n N lb ab tb gb F left ats gone T vs) {j : Nat} {x1 : Value} {o : Obj} {u : Value} (hx : vs[j]? = some x1)
    (hg : ((W.alloc o).drew).grownBy V x1.ownBlock) {b : Nat} (hb : F b) (hbt : b ≠ tb) : (V.setCell ⟨tb, j, none⟩ u).heap[b]? = W.heap[b]? :=
  (Below.heap_setCell _ _ _ _ hbt).trans (far_block hg (h.fs b hb) (fun e => h.aw j x1 hx b (.inr hb) e.symm))
theorem below_grown' {w w' : World} (h : Below w.heap.size w w') : w.grownBy w' none := ⟨h.os, h.tape, h.output, h.size, fun b hb _ => h.block b hb⟩
theorem nbz_nat (G : Gr) (v : Nat) : G.nbz (v : Int) = G.nb v := by
  unfold Gr.nbz
  rw [if_pos (by omega), Int.toNat_natCast]
set_option maxRecDepth 100000 in
set_option maxHeartbeats 8000000 in
theorem cores_walk (w : World) {lo hi : Nat} {g : Value} {G : Gr} (h : PG w lo hi g G) (hn : G.n ≤ 4096) :
    Calls Tryd.prog 37 #[g] w fun e w' => Below w.heap.size w w' ∧ ∃ x c, e = .returned x ∧ w'.ownsRow w.heap.size 3 1 x c.length (c.map (Value.int .i64)) ∧ Hx.IsCores G.n (fun v => up (G.nb v)) c := by
  have H := Lib.hid h
  clear h
  go_enter Tryd.func37, Tryd.ntmps37
  go_wp2_with (first
    | (go_at_call 30; refine (N_any w H.out).mono ?_; rintro e w1 ⟨rfl, rfl⟩))
  refine Code.wp_mono (Q := fun e a w' => e = .normal ∧ ∃ lb ab, (Below w.heap.size w w' ∧ lb ≠ ab ∧ lb < w'.heap.size ∧ ab < w'.heap.size ∧ w'.ownsRow w.heap.size 3 1 (.slice (some ⟨lb, 0, none⟩) G.n G.n) G.n (List.replicate G.n (.int .i64 0)) ∧ w'.ownsRow w.heap.size 3 1 (.slice (some ⟨ab, 0, none⟩) G.n G.n) G.n (List.replicate G.n (.int .i64 0))) ∧
    a = ⟨List.toArray (g :: undef :: Value.slice none 0 0 :: Value.int .i64 (G.n : Int) :: Value.slice (some ⟨lb, 0, none⟩) G.n G.n :: Value.slice (some ⟨ab, 0, none⟩) G.n G.n :: undef :: undef :: undef :: undef :: undef :: undef :: undef :: undef :: undef :: undef :: undef :: g :: Value.int .i64 (G.n : Int) :: Value.int .i64 (G.n : Int) :: Value.slice (some ⟨lb, 0, none⟩) G.n G.n :: Value.int .i64 (G.n : Int) :: Value.slice (some ⟨ab, 0, none⟩) G.n G.n :: undef :: undef :: undef :: undef :: undef :: undef :: undef :: undef :: undef :: undef :: undef :: undef :: undef :: undef :: undef :: undef :: undef :: undef :: undef :: undef :: undef :: undef :: undef :: undef :: undef :: undef :: undef :: undef :: undef :: undef :: undef :: undef :: undef :: undef :: undef :: undef :: undef :: undef :: undef :: undef :: undef :: undef :: undef :: undef :: undef :: undef :: undef :: undef :: undef :: undef :: undef :: undef :: undef :: undef :: undef :: undef :: undef :: undef :: undef :: undef :: undef :: undef :: undef :: undef :: undef :: undef :: undef :: undef :: undef :: undef :: undef :: undef :: undef :: undef :: undef :: undef :: undef :: undef :: undef :: undef :: undef :: undef :: undef :: undef :: undef :: undef :: undef :: undef :: undef :: undef :: undef :: undef :: undef :: undef :: undef :: undef :: undef :: undef :: undef :: undef :: undef :: undef :: undef :: undef :: undef :: undef :: undef :: undef :: undef :: undef :: undef :: undef :: undef :: undef :: undef :: undef :: undef :: undef :: undef :: undef :: undef :: undef :: undef :: undef :: undef :: undef :: undef :: undef :: undef :: undef :: undef :: undef :: undef :: undef :: []), []⟩) ?_ ?_
  rotate_left
  · refine wp_region_any (by kernel_rfl) ?_
    change wpAny _ _ _ _ _ _ _ (World.drew _)
    refine wpAny_take (i := 0) (v := ?_) rfl (by kernel_rfl) (by kernel_rfl) (by kernel_rfl) (fun _ _ _ h => by cases h.1) (Or.inl ⟨by rfl, ?_⟩) ?_
    rotate_left
    · intro w'
      go_simp
      with_reducible rfl
    rotate_left
    go_frame
    refine wpAny_take (i := 2) (v := ?_) rfl (by kernel_rfl) (by kernel_rfl) (by kernel_rfl) (fun _ _ _ h => by cases h.1) (Or.inl ⟨by rfl, ?_⟩) ?_
    rotate_left
    · intro w'
      go_simp
      with_reducible rfl
    rotate_left
    go_frame
    refine wpAny_ready (rs := [1, 3]) (by kernel_rfl) (by simp) (AllReady.cons rfl (fun K hK => ?_) (AllReady.cons rfl (fun K hK => ?_) AllReady.nil))
    · refine (step_make (W := w.drew) w.drew.heap.size rfl (.tmp 19) (.tmp 19) 22 3 _ 8 rfl Tryd.underlying22 infoInt rfl (by decide) _ _ G.n rfl rfl rfl rfl (by omega) (Nat.le_refl _) (fun W1 o1 g1 => hK _ _ ?_))
      clear hK K
      go_frame
      refine wpAny_take (i := 4) (v := ?_) rfl (by kernel_rfl) (by kernel_rfl) (by kernel_rfl) (fun _ _ _ h => by cases h.1) (Or.inl ⟨by rfl, ?_⟩) ?_
      rotate_left
      · intro w'
        go_simp
        with_reducible rfl
      rotate_left
      go_frame
      refine wpAny_ready (rs := [3]) (by kernel_rfl) (by simp) (AllReady.cons rfl (fun K hK => ?_) AllReady.nil)
      refine (step_make (W := W1) W1.heap.size rfl (.tmp 21) (.tmp 21) 22 3 _ 8 rfl Tryd.underlying22 infoInt rfl (by decide) _ _ G.n rfl rfl rfl rfl (by omega) (Nat.le_refl _) (fun W2 o2 g2 => hK _ _ ?_))
      clear hK K
      go_frame
      refine wpAny_take (i := 5) (v := ?_) rfl (by kernel_rfl) (by kernel_rfl) (by kernel_rfl) (fun _ _ _ h => by cases h.1) (Or.inl ⟨by rfl, ?_⟩) ?_
      rotate_left
      · intro w'
        go_simp
        with_reducible rfl
      rotate_left
      go_frame
      have z1 : w.heap.size < W1.heap.size := (o1.lt _ rfl).2
      have z2 : W1.heap.size < W2.heap.size := (o2.lt _ rfl).2
      have z4 : w.drew.heap.size = w.heap.size := rfl
      refine wpAny_done (by kernel_rfl) ⟨rfl, _, _, ⟨((Below.refl w.heap.size w).drew.grown g1 (Nat.le_refl _) (by simp)).grown g2 (Nat.le_of_lt z1) (by simp), by omega, by omega, by omega, ?_, ?_⟩, rfl⟩ _
      · exact ownsRow_mono (World.ownsRow.kept o1 g2 (.inr (by simp [Value.ownBlock]))) (Nat.le_refl _)
      · exact ownsRow_mono o2 (Nat.le_of_lt z1)
    · refine (step_make (W := w.drew) w.drew.heap.size rfl (.tmp 21) (.tmp 21) 22 3 _ 8 rfl Tryd.underlying22 infoInt rfl (by decide) _ _ G.n rfl rfl rfl rfl (by omega) (Nat.le_refl _) (fun W1 o1 g1 => hK _ _ ?_))
      clear hK K
      go_frame
      refine wpAny_ready (rs := [1]) (by kernel_rfl) (by simp) (AllReady.cons rfl (fun K hK => ?_) AllReady.nil)
      refine (step_make (W := W1) W1.heap.size rfl (.tmp 19) (.tmp 19) 22 3 _ 8 rfl Tryd.underlying22 infoInt rfl (by decide) _ _ G.n rfl rfl rfl rfl (by omega) (Nat.le_refl _) (fun W2 o2 g2 => hK _ _ ?_))
      clear hK K
      go_frame
      refine wpAny_take (i := 4) (v := ?_) rfl (by kernel_rfl) (by kernel_rfl) (by kernel_rfl) (fun _ _ _ h => by cases h.1) (Or.inl ⟨by rfl, ?_⟩) ?_
      rotate_left
      · intro w'
        go_simp
        with_reducible rfl
      rotate_left
      go_frame
      refine wpAny_take (i := 5) (v := ?_) rfl (by kernel_rfl) (by kernel_rfl) (by kernel_rfl) (fun _ _ _ h => by cases h.1) (Or.inl ⟨by rfl, ?_⟩) ?_
      rotate_left
      · intro w'
        go_simp
        with_reducible rfl
      rotate_left
      go_frame
      have z1 : w.heap.size < W1.heap.size := (o1.lt _ rfl).2
      have z2 : W1.heap.size < W2.heap.size := (o2.lt _ rfl).2
      have z4 : w.drew.heap.size = w.heap.size := rfl
      refine wpAny_done (by kernel_rfl) ⟨rfl, _, _, ⟨((Below.refl w.heap.size w).drew.grown g1 (Nat.le_refl _) (by simp)).grown g2 (Nat.le_of_lt z1) (by simp), by omega, by omega, by omega, ?_, ?_⟩, rfl⟩ _
      · exact ownsRow_mono o2 (Nat.le_of_lt z1)
      · exact ownsRow_mono (World.ownsRow.kept o1 g2 (.inr (by simp [Value.ownBlock]))) (Nat.le_refl _)
  rintro e a W ⟨rfl, lb, ab, ⟨hb, hne, hlb, hab, hL, hA⟩, rfl⟩
  have B1 : Hid (Below w.heap.size w W) := hb
  have L1 : Hid (OI W w.heap.size (.slice (some ⟨lb, 0, none⟩) G.n G.n) (List.replicate G.n 0)) := by
    show World.ownsRow W w.heap.size 3 1 (.slice (some ⟨lb, 0, none⟩) G.n G.n) (List.replicate G.n (0 : Int)).length ((List.replicate G.n (0 : Int)).map (Value.int .i64))
    simpa using hL
  have A1 : Hid (OI W w.heap.size (.slice (some ⟨ab, 0, none⟩) G.n G.n) (List.replicate G.n 0)) := by
    show World.ownsRow W w.heap.size 3 1 (.slice (some ⟨ab, 0, none⟩) G.n G.n) (List.replicate G.n (0 : Int)).length ((List.replicate G.n (0 : Int)).map (Value.int .i64))
    simpa using hA
  clear hb hL hA
  go_wp2
  go_loopg [24, 6] G.n (fun d s mo wx => ∃ v : Nat, d + v = G.n ∧ s = .int .i64 (v : Int) ∧ ∃ (left : List Int) (m : Int), mo = .int .i64 m ∧ Hid (Below w.heap.size w wx ∧ OI wx w.heap.size (.slice (some ⟨lb, 0, none⟩) G.n G.n) left ∧ OI wx w.heap.size (.slice (some ⟨ab, 0, none⟩) G.n G.n) (List.replicate G.n 0) ∧ lb < wx.heap.size ∧ ab < wx.heap.size) ∧ Hid (left.length = G.n ∧ 0 ≤ m ∧ m ≤ G.n ∧ ∀ u, u < v → left.getD u 0 = ((G.nb u).length : Int) ∧ left.getD u 0 ≤ m))
  case atStart => exact ⟨0, rfl, rfl, _, _, rfl, ⟨B1.out, L1.out, A1.out, hlb, hab⟩, by simp, Int.le_refl _, by omega, fun u hu => absurd hu (Nat.not_lt_zero u)⟩
  case round =>
    obtain ⟨v, hv, rfl, left, m, rfl, HM, HP⟩ := hrel
    have HV := Lib.hid hv
    clear hv
    by_cases hlt : v < G.n
    · have HG : Hid (PG wr lo hi g G) := H.out.at_ HM.out.1
      obtain ⟨g0, x0, hA0, _, _, c0, f0, _⟩ := HM.out.2.1.get v (by rw [HP.out.1]; exact hlt)
      injection hA0 with hA0
      injection hA0 with hA0
      subst hA0
      go_wp2_with (go_at_call 56; refine (Degree_any wr HG.out v).mono ?_; rintro e w1 ⟨rfl, rfl⟩)
      go_roundg (G.n - (v + 1))
      case measure => have := HV.out; omega
      case rel =>
        have hl := HP.out.1
        have hd : ((G.nb v).length : Int) ≤ G.n := by have := G.nb_length_le v; omega
        refine ⟨v + 1, by have := HV.out; omega, by go_num, left.set v ((G.nb v).length : Int), max m ((G.nb v).length : Int), rfl, ⟨HM.out.1.setCell (by have := HM.out.2.1.lt rfl; exact this.1) _, HM.out.2.1.set v (by omega) _, HM.out.2.2.1.kept (grown_set _ _ _) (.inr (by simp only [Value.ownBlock]; intro e; injection e with e; exact hne e.symm)), by rw [size_setCell]; exact HM.out.2.2.2.1, by rw [size_setCell]; exact HM.out.2.2.2.2⟩, by simpa using hl, by have := HP.out.2.1; omega, by have := HP.out.2.2.1; omega, fun u hu => ?_⟩
        rw [Hx.getD_set]
        by_cases e : v = u
        · subst e
          rw [if_pos ⟨rfl, by omega⟩]
          exact ⟨rfl, by omega⟩
        · rw [if_neg (fun q => e q.1)]
          have := HP.out.2.2.2 u (by omega)
          exact ⟨this.1, by omega⟩
    · have hvn : v = G.n := by have := HV.out; omega
      subst hvn
      have hm0 := HP.out.2.1
      have hm1 := HP.out.2.2.1
      obtain ⟨M, hM⟩ : ∃ M : Nat, m = (M : Int) := ⟨m.toNat, by omega⟩
      subst hM
      have hMn : M ≤ 4096 := by omega
      obtain ⟨N1, hN1, hN2⟩ : ∃ N1, M + 1 ≤ N1 ∧ N1 ≤ M + 1 := ⟨_, Nat.le_refl _, Nat.le_refl _⟩
      obtain ⟨wa, hwa⟩ : ∃ W, W = wr := ⟨_, rfl⟩
      rw [← hwa] at HM ⊢
      clear hwa
      have hlb := HM.out.2.2.2.1
      have hab := HM.out.2.2.2.2
      have hws := HM.out.1.size
      go_wp2_with (at_make; refine mk_full (W := wa) wa.heap.size rfl (.tmp 41) (.tmp 41) 100 22 _ 24 rfl Tryd.underlying100 infoInts rfl (by decide) _ _ N1 rfl rfl (by omega) (by omega) (by omega) (Nat.le_refl _) ?_; intro w1 hown1 hgr1)
      have t1 : wa.heap.size + 1 ≤ w1.heap.size := (hown1.lt _ rfl).2
      obtain ⟨tb, htb⟩ : ∃ b, b = wa.heap.size := ⟨_, rfl⟩
      rw [← htb] at hown1 t1 hws hlb hab ⊢
      have B2 : Hid (Below w.heap.size w w1) := HM.out.1.grown hgr1 HM.out.1.size (by simp)
      have L2 : Hid (OI w1 w.heap.size (.slice (some ⟨lb, 0, none⟩) G.n G.n) left) := HM.out.2.1.kept hgr1 (.inr (by simp [Value.ownBlock]))
      have A2 : Hid (OI w1 w.heap.size (.slice (some ⟨ab, 0, none⟩) G.n G.n) (List.replicate G.n 0)) := HM.out.2.2.1.kept hgr1 (.inr (by simp [Value.ownBlock]))
      have R2 : Hid (OwnRows w1 (tb + 1) tb N1 (fun _ => [])) := rows_start (by omega) hown1
      clear hown1 hgr1 htb HM
      have hws1 : w.heap.size ≤ tb := hws
      obtain ⟨i0, hi, hz0, hz1, hz2⟩ := info_parts infoInt
      have HI : Hid (Tryd.prog.info? 3 = some i0 ∧ i0.zero = some (.int .i64 0) ∧ i0.size = 1 ∧ i0.bytes = 8) := ⟨hi, hz0, hz1, hz2⟩
      clear hi hz0 hz1 hz2
      have HPL : Hid (left.length = G.n ∧ ∀ u, u < G.n → left.getD u 0 = ((G.nb u).length : Int) ∧ left.getD u 0 ≤ M) := ⟨HP.out.1, HP.out.2.2.2⟩
      clear HP
      go_loopg [44] G.n (fun d s wx => ∃ v : Nat, d + v = G.n ∧ s = .int .i64 (v : Int) ∧ ∃ (T : Nat → List Int), Hid (Below w.heap.size w wx ∧ OI wx w.heap.size (.slice (some ⟨lb, 0, none⟩) G.n G.n) left ∧ OI wx w.heap.size (.slice (some ⟨ab, 0, none⟩) G.n G.n) (List.replicate G.n 0) ∧ tb + 1 ≤ wx.heap.size ∧ OwnRows wx (tb + 1) tb N1 T) ∧ Hid (Hx.entries T N1 = v ∧ (∀ u, u < v → (u : Int) ∈ T (left.getD u 0).toNat) ∧ (∀ j, ∀ x ∈ T j, 0 ≤ x ∧ x < G.n)))
      case atStart =>
        refine ⟨0, rfl, rfl, _, ⟨B2.out, L2.out, A2.out, t1, R2.out⟩, ?_, fun u hu => absurd hu (Nat.not_lt_zero u), fun j x hx => by cases hx⟩
        have : ∀ q, Hx.entries (fun _ => []) q = 0 := fun q => by induction q with
          | zero => rfl
          | succ q ih => unfold Hx.entries; rw [ih]; rfl
        exact this _
      case round =>
        obtain ⟨v, hv, rfl, T, HM, HP⟩ := hrel
        have HV := Lib.hid hv
        clear hv
        by_cases hlt : v < G.n
        · obtain ⟨g0, x0, hA0, _, hg0, c0, _, hx0⟩ := HM.out.2.1.get v (by rw [HPL.out.1]; exact hlt)
          injection hA0 with hA0
          injection hA0 with hA0
          subst hA0
          have hlv := HPL.out.2 v hlt
          have ex : left.getD v 0 = x0 := getD_of hx0.out
          obtain ⟨j, hj⟩ : ∃ j : Nat, x0 = (j : Int) := ⟨x0.toNat, by omega⟩
          subst hj
          have hjM : j < N1 := by omega
          have HEX := Lib.hid ex
          clear ex hlv hx0
          obtain ⟨vs, R3'⟩ := HM.out.2.2.2.2
          have R3 := Lib.hid R3'
          clear R3'
          have hbz := HM.out.2.2.2.1
          have hws := HM.out.1.size
          have hln : (T j).length ≤ 4096 := by have := Hx.entries_ge T hjM; have := HP.out.1; omega
          go_wp2
          obtain ⟨W5, hW5⟩ : ∃ W, W = wr := ⟨_, rfl⟩
          rw [← hW5] at HM R3 c0 hg0 hbz hws ⊢
          clear hW5
          obtain ⟨x1, x1x, x1o⟩ := R3.out.2.2.1 j hjM
          have x1b := x1o.lt
          have ql : some lb ≠ x1.ownBlock := fun e => by have := x1b _ e.symm; omega
          have qa : some ab ≠ x1.ownBlock := fun e => by have := x1b _ e.symm; omega
          have qt : some tb ≠ x1.ownBlock := fun e => by have := x1b _ e.symm; omega
          have t0 : W5.cell? ⟨tb, j, none⟩ = some x1 := by rw [cell_of R3.out.2.1 j]; simpa using x1x
          have f0 := free_of R3.out.2.1 j
          have wlt : tb < W5.heap.size := by omega
          have XO := Lib.hid x1o
          have XX := Lib.hid x1x
          have QL := Lib.hid ql
          have QA := Lib.hid qa
          have QT := Lib.hid qt
          clear x1o x1x x1b ql qt qa
          refine region_T (by kernel_rfl) (fun w' => w'.cell? ⟨lb, v, none⟩ = some (.int .i64 (j : Int)) ∧ w'.cell? ⟨tb, j, none⟩ = some x1) 16 ⟨c0, t0⟩ (fun HS => ?_)
          change anyT _ _ _ _ _ _ 17 _ _ _
          refine takeT (i := 0) (v := ?_) rfl rfl (by kernel_rfl) (fun _ _ _ h => h) rfl ?_ HS ?_
          rotate_left
          · intro w' hS'
            obtain ⟨s0, s1⟩ := hS'
            go_simp
            rfl
          rotate_left
          go_frame
          refine takeT (i := 1) (v := ?_) rfl rfl (by kernel_rfl) (fun _ _ _ h => h) rfl ?_ HS ?_
          rotate_left
          · intro w' hS'
            obtain ⟨s0, s1⟩ := hS'
            go_simp
            rfl
          rotate_left
          go_frame
          refine takeT (i := 2) (v := ?_) rfl rfl (by kernel_rfl) (fun _ _ _ h => h) rfl ?_ HS ?_
          rotate_left
          · intro w' hS'
            obtain ⟨s0, s1⟩ := hS'
            go_simp
            rfl
          rotate_left
          go_frame
          refine takeT (i := 3) (v := ?_) rfl rfl (by kernel_rfl) (fun _ _ _ h => h) rfl ?_ HS ?_
          rotate_left
          · intro w' hS'
            obtain ⟨s0, s1⟩ := hS'
            go_simp
            rfl
          rotate_left
          go_frame
          refine takeT (i := 4) (v := ?_) rfl rfl (by kernel_rfl) (fun _ _ _ h => h) rfl ?_ HS ?_
          rotate_left
          · intro w' hS'
            obtain ⟨s0, s1⟩ := hS'
            go_simp
            rfl
          rotate_left
          go_frame
          refine takeT (i := 5) (v := ?_) rfl rfl (by kernel_rfl) (fun _ _ _ h => h) rfl ?_ HS ?_
          rotate_left
          · intro w' hS'
            obtain ⟨s0, s1⟩ := hS'
            go_simp
            rfl
          rotate_left
          go_frame
          refine takeT (i := 6) (v := ?_) rfl rfl (by kernel_rfl) (fun _ _ _ h => h) rfl ?_ HS ?_
          rotate_left
          · intro w' hS'
            obtain ⟨s0, s1⟩ := hS'
            go_simp
            rfl
          rotate_left
          go_frame
          refine takeT (i := 7) (v := ?_) rfl rfl (by kernel_rfl) (fun _ _ _ h => h) rfl ?_ HS ?_
          rotate_left
          · intro w' hS'
            obtain ⟨s0, s1⟩ := hS'
            go_simp
            rfl
          rotate_left
          go_frame
          refine takeT (i := 8) (v := ?_) rfl rfl (by kernel_rfl) (fun _ _ _ h => h) rfl ?_ HS ?_
          rotate_left
          · intro w' hS'
            obtain ⟨s0, s1⟩ := hS'
            go_simp
            rfl
          rotate_left
          go_frame
          refine takeT (i := 9) (v := ?_) rfl rfl (by kernel_rfl) (fun _ _ _ h => h) rfl ?_ HS ?_
          rotate_left
          · intro w' hS'
            obtain ⟨s0, s1⟩ := hS'
            go_simp
            rfl
          rotate_left
          go_frame
          refine takeT (i := 10) (v := ?_) rfl rfl (by kernel_rfl) (fun _ _ _ h => h) rfl ?_ HS ?_
          rotate_left
          · intro w' hS'
            obtain ⟨s0, s1⟩ := hS'
            go_simp
            rfl
          rotate_left
          go_frame
          refine takeT (i := 11) (v := ?_) rfl rfl (by kernel_rfl) (fun _ _ _ h => h) rfl ?_ HS ?_
          rotate_left
          · intro w' hS'
            obtain ⟨s0, s1⟩ := hS'
            go_simp
            rfl
          rotate_left
          go_frame
          refine takeT (i := 12) (v := ?_) rfl rfl (by kernel_rfl) (fun _ _ _ h => h) rfl ?_ HS ?_
          rotate_left
          · intro w' hS'
            obtain ⟨s0, s1⟩ := hS'
            go_simp
            rfl
          rotate_left
          go_frame
          refine oneT (i := 13) rfl (by kernel_rfl) (fun K hK => ?_)
          go_simp
          refine hK.out _ _ (fun _ => ?_) ?_
          · exact ⟨(World.cell?_of_block (w := W5) (Below.heap_alloc W5 _ _ hg0)).trans c0, (World.cell?_of_block (w := W5) (Below.heap_alloc W5 _ _ wlt)).trans t0⟩
          clear hK K
          refine oneT (i := 14) rfl (by kernel_rfl) (fun K hK => ?_)
          refine step_append_lies _ (by rfl) (.tmp 58) (.tmp 60) 22 (by rfl) (tb + 1) 3 i0 (.int .i64 0) 1 8 Tryd.underlying22 HI.out.1 HI.out.2.1 HI.out.2.2.1 HI.out.2.2.2 rfl (by decide) x1 _ _ (by rfl) (XO.out.alloc _).drew ⟨W5.heap.size, 0, none⟩ 1 1 [.int .i64 (v : Int)] (by rfl) rfl (World.news_of_block (cs := #[.int .i64 (v : Int)]) (t := 3) (fr := (0, 0)) (heap_alloc_new W5 _)) (by simp [Value.oneCell']) (by decide) (by unfold maxLen; omega) (by omega) (by simp; omega) (W5.heap.size + 1) (by simp) ?_
          intro g0 cap0 V0 hown0 hgr0 hat0 hlt0
          have p0' := far_cell hgr0 c0 QL.out
          have t0' := far_cell hgr0 t0 QT.out
          have f0' := (far_frozen hgr0 (a := ⟨tb, j, none⟩) wlt QT.out).trans f0
          refine hK.out _ _ (fun _ => ⟨p0', t0'⟩) ?_
          clear hK K
          have HS0 : (fun w' : World => w'.cell? ⟨lb, v, none⟩ = some (.int .i64 (j : Int)) ∧ w'.cell? ⟨tb, j, none⟩ = some x1) V0 := ⟨p0', t0'⟩
          go_frame
          refine takeT (i := 15) (v := ?_) rfl rfl (by kernel_rfl) (fun _ _ _ h => h) rfl ?_ HS0 ?_
          rotate_left
          · intro w' hS'
            obtain ⟨s0, s1⟩ := hS'
            go_simp
            rfl
          rotate_left
          go_frame
          refine oneT (i := 16) rfl (by kernel_rfl) (fun K hK => ?_)
          go_simp
          refine hK.out _ _ (fun h => absurd rfl h) ?_
          clear hK K
          refine doneT (by kernel_rfl) ?_ 0
          have R7 := Lib.hid (R3.out.app (y := (v : Int)) hjM XX.out (by omega) (by omega) hgr0 hown0 hat0)
          have hvs : W5.heap.size ≤ V0.heap.size := by have := hgr0.size; simp at this; omega
          have fb : ∀ c, c < W5.heap.size → some c ≠ x1.ownBlock → c ≠ tb → (V0.setCell ⟨tb, j, none⟩ (.slice (some ⟨g0, 0, none⟩) ((T j).length + 1) cap0)).heap[c]? = W5.heap[c]? := fun c h1 h2 h3 => (Below.heap_setCell _ _ _ _ h3).trans (far_block hgr0 h1 h2)
          have B7 : Hid (Below w.heap.size w (V0.setCell ⟨tb, j, none⟩ (.slice (some ⟨g0, 0, none⟩) ((T j).length + 1) cap0))) := ((((HM.out.1.alloc HM.out.1.size _).drew).grown hgr0 (by simp; omega) (fun c hc => by have := (XO.out.lt c hc).1; omega))).setCell (by simp; omega) _
          have L7 : Hid (OI (V0.setCell ⟨tb, j, none⟩ (.slice (some ⟨g0, 0, none⟩) ((T j).length + 1) cap0)) w.heap.size (.slice (some ⟨lb, 0, none⟩) G.n G.n) left) := own_same HM.out.2.1 (fb lb hg0 QL.out (by omega))
          have A7 : Hid (OI (V0.setCell ⟨tb, j, none⟩ (.slice (some ⟨g0, 0, none⟩) ((T j).length + 1) cap0)) w.heap.size (.slice (some ⟨ab, 0, none⟩) G.n G.n) (List.replicate G.n 0)) := own_same HM.out.2.2.1 (fb ab (by omega) QA.out (by omega))
          have hsz7 : tb + 1 ≤ (V0.setCell ⟨tb, j, none⟩ (.slice (some ⟨g0, 0, none⟩) ((T j).length + 1) cap0)).heap.size := by rw [size_setCell]; omega
          obtain ⟨W7, hW7⟩ : ∃ W, W = V0.setCell ⟨tb, j, none⟩ (.slice (some ⟨g0, 0, none⟩) ((T j).length + 1) cap0) := ⟨_, rfl⟩
          rw [← hW7] at R7 B7 L7 A7 hsz7 ⊢
          clear hW7 fb c0 t0 f0 p0' t0' f0' hvs hgr0 hown0 hat0 hlt0 HS HS0
          go_wp2
          go_roundg (G.n - (v + 1))
          case measure => have := HV.out; omega
          case rel =>
            refine ⟨v + 1, by have := HV.out; omega, by go_num, Hx.updT T j (T j ++ [(v : Int)]), ⟨B7.out, L7.out, A7.out, hsz7, _, R7.out⟩, ?_, fun u hu => ?_, fun q x hx => ?_⟩
            · have h1 := Hx.entries_upd T j (T j ++ [(v : Int)]) N1
              rw [if_pos hjM, if_pos hjM, List.length_append, List.length_singleton] at h1
              have := HP.out.1
              omega
            · unfold Hx.updT
              by_cases e : u = v
              · subst e
                rw [HEX.out, Int.toNat_natCast, if_pos rfl]
                simp
              · have h1 := HP.out.2.1 u (by omega)
                split
                · rename_i e2
                  rw [e2] at h1
                  exact List.mem_append.2 (.inl h1)
                · exact h1
            · unfold Hx.updT at hx
              split at hx
              · rcases List.mem_append.1 hx with hx | hx
                · exact HP.out.2.2 _ x hx
                · rw [List.mem_singleton] at hx
                  omega
              · exact HP.out.2.2 q x hx
        · have hvn : v = G.n := by have := HV.out; omega
          subst hvn
          obtain ⟨wb, hwb⟩ : ∃ W, W = wr := ⟨_, rfl⟩
          rw [← hwb] at HM ⊢
          clear hwb
          have hwb1 := HM.out.1.size
          have htb1 := HM.out.2.2.2.1
          go_wp2_with (at_make; refine mk_full (W := wb) wb.heap.size rfl (.tmp 64) (.tmp 64) 23 4 _ 1 rfl Tryd.underlying23 infoBoolC rfl (by decide) _ _ G.n rfl rfl rfl rfl (by omega) (Nat.le_refl _) ?_; intro w2 hown2 hgr2)
          have hNb := nbs_G H.out.ok
          have HNB := Lib.hid hNb
          clear hNb
          obtain ⟨gb, hgb⟩ : ∃ b, b = wb.heap.size := ⟨_, rfl⟩
          rw [← hgb]
          obtain ⟨vs0, R0⟩ := HM.out.2.2.2.2
          have C0 : Hid (CM w w2 G.n N1 lb ab tb gb (fun _ => False) left (List.replicate G.n 0) (List.replicate G.n false) T vs0) := by
            rw [hgb]
            refine ⟨HM.out.1.grown hgr2 hwb1 (by simp), HM.out.2.1.kept hgr2 (.inr (by simp [Value.ownBlock])), HM.out.2.2.1.kept hgr2 (.inr (by simp [Value.ownBlock])), ?_, R0.kept hgr2 (by simp) (by simp), (hown2.lt _ rfl).2, fun j x hx b hb e => ?_, fun b hb => hb.elim⟩
            · show World.ownsRow w2 w.heap.size 4 1 (.slice (some ⟨wb.heap.size, 0, none⟩) G.n G.n) (List.replicate G.n false).length ((List.replicate G.n false).map Value.bool)
              have := ownsRow_mono hown2 hwb1
              simpa using this
            · rcases hb with rfl | hb
              · obtain ⟨x', hx', hxo⟩ := R0.2.2.1 j (by rw [← R0.1]; exact (List.getElem?_eq_some_iff.1 hx).1)
                rw [hx] at hx'
                cases hx'
                have := (hxo.lt _ e).2
                omega
              · exact hb
          have htg : tb < gb := by omega
          have hwt : w.heap.size ≤ tb := hws1
          have P0 : Hid (Hx.Peel G.n (fun v => up (G.nb v)) M left (List.replicate G.n 0) (List.replicate G.n false) T 0 0 []) := Hx.Peel.start HPL.out.1 (fun u hu => by rw [(HPL.out.2 u hu).1, up_length]) (fun u hu => (HPL.out.2 u hu).2) HP.out.2.1 HP.out.2.2
          have hs1 : left.sum ≤ G.n * M := by
            have := sum_le_getD left (m := (M : Int)) (fun u hu => (HPL.out.2 u (by rw [← HPL.out.1]; exact hu)).2)
            rw [HPL.out.1] at this
            exact this
          have hs0 : 0 ≤ left.sum := sum_ge_getD left (fun u hu => by have := (HPL.out.2 u (by rw [← HPL.out.1]; exact hu)).1; omega)
          have hs2 : (G.n : Int) * (M : Int) ≤ 4096 * 4096 := by
            have : G.n * M ≤ 4096 * 4096 := Nat.mul_le_mul (by omega) (by omega)
            omega
          have hs3 : left.sum + Hx.entries T N1 ≤ 20000000 := by have := HP.out.1; omega
          have HS := Lib.hid (And.intro hs0 hs3)
          clear hs0 hs1 hs2 hs3 hown2 hgr2 R0 HM HP HPL hgb hwb1
          go_loopg [12, 11] (3 * left.sum + Hx.entries T N1 + (M + 1)).toNat (fun d si sk wx => ∃ (i k : Int) (left ats : List Int) (gone : List Bool) (T : Nat → List Int) (vs : List Value), si = .int .i64 i ∧ sk = .int .i64 k ∧ Hid (CM w wx G.n N1 lb ab tb gb (fun _ => False) left ats gone T vs) ∧ Hid (Hx.Peel G.n (fun v => up (G.nb v)) M left ats gone T k i [] ∧ i ≤ M + 1 ∧ 0 ≤ left.sum ∧ left.sum + Hx.entries T N1 ≤ 20000000 ∧ (d : Int) = 3 * left.sum + Hx.entries T N1 + (M + 1 - i) ∧ k ≤ M))
          case atStart =>
            have := HS.out
            exact ⟨0, 0, _, _, _, _, _, rfl, rfl, C0.out, P0.out, by omega, this.1, this.2, by omega, by omega⟩
          case round =>
            clear P0 C0 HS
            obtain ⟨i, k, left, ats, gone, T, vs, rfl, rfl, HC, HP⟩ := hrel
            have hi0 := HP.out.1.i0
            have hk0 := HP.out.1.k0
            have hi1 := HP.out.2.1
            have hk1 := HP.out.2.2.2.2.2
            have hgz := HC.out.sz
            have hws := HC.out.bel.size
            by_cases hle : i ≤ M
            · obtain ⟨q, hq⟩ : ∃ q : Nat, i = (q : Int) := ⟨i.toNat, by omega⟩
              subst hq
              have hqN : q < N1 := by omega
              obtain ⟨x1, x1x, x1o⟩ := HC.out.t.2.2.1 q hqN
              obtain ⟨A1, c1, e1⟩ := own_slice' x1o
              subst e1
              have t0 : wr.cell? ⟨tb, q, none⟩ = some (.slice A1 (T q).length c1) := by rw [cell_of HC.out.t.2.1 q]; simpa using x1x
              have f0 := free_of HC.out.t.2.1 q
              have XX := Lib.hid x1x
              have XO := Lib.hid x1o
              clear x1x x1o
              rcases List.eq_nil_or_concat (T q) with hT | ⟨ys, y, hT⟩
              · have hl0 : (T q).length = 0 := by rw [hT]; rfl
                rw [hl0] at t0
                have HT := Lib.hid hT
                clear hT
                go_wp2
                go_roundg (3 * left.sum + Hx.entries T N1 + (M + 1 - ((q : Int) + 1))).toNat
                case measure => have := HP.out.2.2; omega
                case rel =>
                  have := HP.out.2.2
                  exact ⟨(q : Int) + 1, k, _, _, _, _, _, rfl, rfl, HC.out, HP.out.1.next (by rw [Int.toNat_natCast]; exact HT.out), by omega, this.1, this.2.1, by omega, hk1⟩
              · rw [List.concat_eq_append] at hT
                have hyr := HP.out.1.tr q y (by rw [hT]; simp)
                obtain ⟨v, hv⟩ : ∃ v : Nat, y = (v : Int) := ⟨y.toNat, by omega⟩
                subst hv
                have hvn : v < G.n := by omega
                clear hyr
                have hlen : (T q).length = ys.length + 1 := by rw [hT]; simp
                have ho : Own1 wr (tb + 1) 3 (Value.int .i64) (.slice A1 (ys.length + 1) c1) (ys ++ [(v : Int)]) := by
                  have := XO.out
                  rw [hT] at this
                  show World.ownsRow wr (tb + 1) 3 1 (.slice A1 (ys.length + 1) c1) _ _
                  simpa using this
                have hcap := ho.cap
                obtain ⟨bq, xq, hA, hbq, hbq2, cq, fq, hxq⟩ := ho.get ys.length (by simp)
                subst hA
                have : xq = (v : Int) := by have := hxq.out; simpa using this.symm
                subst this
                rw [hlen] at t0 XX
                rw [List.length_append, List.length_singleton] at hcap
                have hb63 : ys.length + 1 ≤ 20000000 := by have := Hx.entries_ge T hqN; have := HP.out.2.2.2.1; have := HP.out.2.2.1; omega
                obtain ⟨g1, z1, hz1, _, _, cg, fg, hzg⟩ := HC.out.g.get v (by rw [HP.out.1.gl]; exact hvn)
                injection hz1 with hz1
                injection hz1 with hz1
                subst hz1
                obtain ⟨g2, z2, hz2, _, _, cl, fl, hzl⟩ := HC.out.l.get v (by rw [HP.out.1.ll]; exact hvn)
                injection hz2 with hz2
                injection hz2 with hz2
                subst hz2
                have HT := Lib.hid hT
                have HO := Lib.hid ho
                have HLEN := Lib.hid hlen
                clear hT ho hlen hxq
                have ne1 : gb ≠ tb := by omega
                have ne2 : lb ≠ tb := by omega
                have eg : gone.getD v false = z1 := by have := hzg.out; rw [List.getD_eq_getElem?_getD, this]; rfl
                have el : left.getD v 0 = z2 := getD_of hzl.out
                have HEG := Lib.hid eg
                have HEL := Lib.hid el
                clear eg el hzg hzl
                have stale : (gone.getD v false = true ∨ left.getD v 0 ≠ (q : Int)) → Hx.Peel G.n (fun v => up (G.nb v)) M left ats gone (Hx.updT T q ys) k q [] := fun h => by
                  have h1 := HP.out.1.stale (ys := ys) (v := v) (by rw [Int.toNat_natCast]; exact HT.out) h
                  rw [Int.toNat_natCast] at h1
                  exact h1
                have hent : Hx.entries (Hx.updT T q ys) N1 + 1 = Hx.entries T N1 := by
                  have h1 := Hx.entries_upd T q ys N1
                  rw [if_pos hqN, if_pos hqN, HLEN.out] at h1
                  omega
                have HST := Lib.hid stale
                have HEN := Lib.hid hent
                have CP : Hid (CM w (wr.setCell ⟨tb, q, none⟩ (.slice (some ⟨bq, 0, none⟩) ys.length c1)) G.n N1 lb ab tb gb (fun _ => False) left ats gone (Hx.updT T q ys) (vs.set q (.slice (some ⟨bq, 0, none⟩) ys.length c1))) := HC.out.pop hlb hab htg hwt hqN XX.out HT.out
                clear stale hent
                cases z1 with
                | true =>
                  go_wp2
                  go_roundg (3 * left.sum + Hx.entries (Hx.updT T q ys) N1 + (M + 1 - (q : Int))).toNat
                  case measure => have := HP.out.2.2; have := HEN.out; omega
                  case rel =>
                    have := HP.out.2.2
                    have := HEN.out
                    exact ⟨(q : Int), k, _, _, _, _, _, rfl, rfl, CP.out, HST.out (.inl HEG.out), by omega, by omega, by omega, by omega, hk1⟩
                | false =>
                  by_cases hz : z2 = (q : Int)
                  · subst hz
                    obtain ⟨g3, z3, hz3, _, _, ca, fa, _⟩ := HC.out.a.get v (by rw [HP.out.1.al]; exact hvn)
                    injection hz3 with hz3
                    injection hz3 with hz3
                    subst hz3
                    have ne3 : ab ≠ tb := by omega
                    have ne4 : ab ≠ gb := by omega
                    have ne5 : lb ≠ gb := by omega
                    have PT := Lib.hid (HP.out.1.take (ys := ys) (v := v) HNB.out (by rw [Int.toNat_natCast]; exact HT.out) HEG.out HEL.out)
                    have CT := Lib.hid ((CP.out.setG hlb hab htg (u := v) (by rw [HP.out.1.gl]; exact hvn) true).setA hne hab htg (u := v) (by rw [HP.out.1.al]; exact hvn) (max k (q : Int)))
                    have hmx : max k (q : Int) ≤ M := by omega
                    go_wp2_with (go_at_call 61; refine (Neighbours_any _ (H.out.at_ CT.out.bel) v).mono ?_; rintro e w4 ⟨hb4, x4, rfl, ho4⟩; rw [nbz_nat] at ho4; obtain ⟨A4, c4, e4⟩ := own_slice' ho4; subst e4)
                    have F4 : ∀ b, (Value.slice A4 (G.nb v).length c4).ownBlock = some b → _ ≤ b ∧ b < w4.heap.size := fun b hb => ho4.lt b hb
                    have C4 := Lib.hid (CT.out.newF (below_grown' hb4) (fun b => (Value.slice A4 (G.nb v).length c4).ownBlock = some b) F4)
                    have N4 : Hid (Own1 w4 w.heap.size 3 (Value.int .i64) (.slice A4 (G.nb v).length c4) (up (G.nb v))) := by
                      have h1 := ownsRow_mono ho4 CT.out.bel.size
                      show World.ownsRow w4 w.heap.size 3 1 (.slice A4 (G.nb v).length c4) (up (G.nb v)).length ((up (G.nb v)).map (Value.int .i64))
                      rw [up_length]
                      exact h1
                    have FB : ∀ b, (Value.slice A4 (G.nb v).length c4).ownBlock = some b → gb < b := fun b hb => by
                      have := (F4 b hb).1
                      have := CT.out.sz
                      omega
                    have HFB := Lib.hid FB
                    obtain ⟨Cc, hCc⟩ : ∃ c : Int, c = (gk : Int) := ⟨_, rfl⟩
                    have HCC := Lib.hid hCc
                    have S4 : Hid (0 ≤ left.sum ∧ left.sum + Hx.entries (Hx.updT T q ys) N1 ≤ 20000000 ∧ 3 * left.sum + Hx.entries (Hx.updT T q ys) N1 + (M + 1 - (q : Int)) + 1 ≤ Cc) := by
                      have := HP.out.2.2
                      have := HEN.out
                      refine ⟨by omega, by omega, by omega⟩
                    obtain ⟨ats', hats'⟩ : ∃ z, z = ats.set v (max k (q : Int)) := ⟨_, rfl⟩
                    obtain ⟨gone', hgone'⟩ : ∃ z, z = gone.set v true := ⟨_, rfl⟩
                    obtain ⟨k', hk'⟩ : ∃ z, z = max k (q : Int) := ⟨_, rfl⟩
                    rw [← hats', ← hgone'] at C4
                    rw [← hats', ← hgone', ← hk'] at PT
                    rw [← hk']
                    rw [← hk'] at hmx
                    have P4 : Hid (Hx.Peel G.n (fun v => up (G.nb v)) M left ats' gone' (Hx.updT T q ys) k' q (up (G.nb v))) := by
                      have := PT.out
                      rw [Int.toNat_natCast] at this
                      exact this
                    have hnd := HNB.out.nodup v hvn
                    have HND := Lib.hid hnd
                    have hdl := G.nb_length_le v
                    clear hats' hgone' hk' hCc PT FB F4 hb4 ho4 CT CP HST HT HO t0 f0 cq fq cg fg cl fl ca fa hnd
                    go_loopg [118, 12] (G.nb v).length (fun d sj si wx => ∃ (j : Nat) (i : Int) (left : List Int) (T : Nat → List Int) (vs : List Value), d + j = (G.nb v).length ∧ sj = .int .i64 (j : Int) ∧ si = .int .i64 i ∧ Hid (CM w wx G.n N1 lb ab tb gb (fun b => (Value.slice A4 (G.nb v).length c4).ownBlock = some b) left ats' gone' T vs) ∧ Hid (Own1 wx w.heap.size 3 (Value.int .i64) (.slice A4 (G.nb v).length c4) (up (G.nb v))) ∧ Hid (Hx.Peel G.n (fun v => up (G.nb v)) M left ats' gone' T k' i ((up (G.nb v)).drop j) ∧ i ≤ M + 1 ∧ 0 ≤ left.sum ∧ left.sum + Hx.entries T N1 ≤ 20000000 ∧ 3 * left.sum + Hx.entries T N1 + (M + 1 - i) + 1 ≤ Cc))
                    case atStart =>
                      have := S4.out
                      exact ⟨0, _, _, _, _, rfl, rfl, rfl, C4.out, N4.out, P4.out, by omega, this.1, this.2.1, this.2.2⟩
                    case round =>
                      have HPO := HP
                      clear HC HP S4 C4 N4 P4 XX XO HEN HEG HEL HLEN
                      obtain ⟨j, i, left, T, vs, hj, rfl, rfl, HC, HN, HP⟩ := hrel
                      have HJ := Lib.hid hj
                      clear hj
                      have hgz := HC.out.sz
                      have hws := HC.out.bel.size
                      by_cases hlt : j < (G.nb v).length
                      · obtain ⟨g4, u0, hA4, _, hg4, c5, _, hu0⟩ := HN.out.get j (by rw [up_length]; exact hlt)
                        subst hA4
                        obtain ⟨u, hu⟩ : ∃ u : Nat, u0 = (u : Int) ∧ u < G.n := by
                          have hm := List.mem_of_getElem? hu0.out
                          have := HNB.out.rng v hvn u0 hm
                          exact ⟨u0.toNat, by omega, by omega⟩
                        obtain ⟨rfl, hun⟩ := hu
                        have hdr : (up (G.nb v)).drop j = (u : Int) :: (up (G.nb v)).drop (j + 1) := by
                          obtain ⟨h1, h2⟩ := List.getElem?_eq_some_iff.1 hu0.out
                          rw [List.drop_eq_getElem_cons h1, h2]
                        have HDR := Lib.hid hdr
                        have hnu := HND.out
                        have hnu' : ((u : Int) :: (up (G.nb v)).drop (j + 1)).Nodup := by rw [← hdr]; exact List.Pairwise.drop hnu
                        have HNU := Lib.hid hnu'
                        have hg4b : gb < g4 := HFB.out g4 rfl
                        obtain ⟨g1, z1, hz1, _, _, cg, fg, hzg⟩ := HC.out.g.get u (by rw [HP.out.1.gl]; exact hun)
                        injection hz1 with hz1
                        injection hz1 with hz1
                        subst hz1
                        obtain ⟨g2, z2, hz2, _, _, cl, fl, hzl⟩ := HC.out.l.get u (by rw [HP.out.1.ll]; exact hun)
                        injection hz2 with hz2
                        injection hz2 with hz2
                        subst hz2
                        have HEG : Hid (gone'.getD u false = z1) := by have := hzg.out; show gone'.getD u false = z1; rw [List.getD_eq_getElem?_getD, this]; rfl
                        have HEL : Hid (left.getD u 0 = z2) := getD_of hzl.out
                        have hi1 := HP.out.2.1
                        have hi0 := HP.out.1.i0
                        clear hu0 hdr hnu hnu' hzg hzl
                        cases z1 with
                        | true =>
                          go_wp2
                          go_roundg ((G.nb v).length - (j + 1))
                          case measure => have := HJ.out; omega
                          case rel =>
                            refine ⟨j + 1, i, left, T, vs, by have := HJ.out; omega, by go_num, rfl, HC.out, HN.out, ?_, HP.out.2⟩
                            have := HP.out.1
                            rw [HDR.out] at this
                            exact this.pass HEG.out
                        | false =>
                          have PD := HP.out.1
                          rw [HDR.out] at PD
                          have h1 := PD.one hun HEG.out
                          rw [HEL.out] at h1
                          have h2 := (PD.lr u hun).2
                          rw [HEL.out] at h2
                          obtain ⟨jj, hjj⟩ : ∃ jj : Nat, z2 = (jj : Int) + 1 := ⟨(z2 - 1).toNat, by omega⟩
                          subst hjj
                          have hjN : jj < N1 := by omega
                          have PDD := Lib.hid (PD.dec HNU.out hun HEG.out)
                          rw [HEL.out, show (jj : Int) + 1 - 1 = (jj : Int) by omega, Int.toNat_natCast] at PDD
                          have CL := Lib.hid (HC.out.setL hne hlb htg (u := u) (by rw [HP.out.1.ll]; exact hun) (jj : Int))
                          clear PD h1 h2
                          go_wp2
                          obtain ⟨W5, hW5⟩ : ∃ W, W = wr.setCell ⟨lb, u, none⟩ (.int .i64 (jj : Int)) := ⟨_, rfl⟩
                          have N5 : Hid (Own1 W5 w.heap.size 3 (Value.int .i64) (.slice (some ⟨g4, 0, none⟩) (G.nb v).length c4) (up (G.nb v))) := by
                            rw [hW5]
                            exact own_same' HN.out (fun b hb => by
                              injection hb with hb
                              have hb : g4 = b := hb
                              exact Below.heap_setCell _ _ _ _ (show b ≠ lb by omega))
                          rw [← hW5] at CL ⊢
                          have hg5 : g4 < W5.heap.size := by rw [hW5, size_setCell]; exact hg4
                          clear hW5 HC HN c5 cg fg cl fl
                          have hgz := CL.out.sz
                          have hws := CL.out.bel.size
                          obtain ⟨x1, x1x, x1o⟩ := CL.out.t.2.2.1 jj hjN
                          have x1b := x1o.lt
                          have hln : (T jj).length ≤ 20000000 := by have := Hx.entries_ge T hjN; have := HP.out.2.2.1; have := HP.out.2.2.2.1; omega
                          have ql : some lb ≠ x1.ownBlock := fun e => by have := x1b _ e.symm; omega
                          have qt : some tb ≠ x1.ownBlock := fun e => by have := x1b _ e.symm; omega
                          have t0 : W5.cell? ⟨tb, jj, none⟩ = some x1 := by rw [cell_of CL.out.t.2.1 jj]; simpa using x1x
                          have f0 := free_of CL.out.t.2.1 jj
                          obtain ⟨g2, z2, hz2, _, hlb5, c0, _, hz3⟩ := CL.out.l.get u (by rw [List.length_set, HP.out.1.ll]; exact hun)
                          injection hz2 with hz2
                          injection hz2 with hz2
                          subst hz2
                          have hz4 : z2 = (jj : Int) := by
                            have := hz3.out
                            rw [List.getElem?_set_self (by rw [HP.out.1.ll]; exact hun)] at this
                            injection this with this
                            exact this.symm
                          rw [hz4] at c0
                          have wlt : tb < W5.heap.size := by omega
                          have XO := Lib.hid x1o
                          have XX := Lib.hid x1x
                          have QL := Lib.hid ql
                          have QT := Lib.hid qt
                          clear x1o x1x x1b ql qt hz3 hz4
                          refine region_T (by kernel_rfl) (fun w' => w'.cell? ⟨lb, u, none⟩ = some (.int .i64 (jj : Int)) ∧ w'.cell? ⟨tb, jj, none⟩ = some x1) 16 ⟨c0, t0⟩ (fun HS => ?_)
                          change anyT _ _ _ _ _ _ 17 _ _ _
                          refine takeT (i := 0) (v := ?_) rfl rfl (by kernel_rfl) (fun _ _ _ h => h) rfl ?_ HS ?_
                          rotate_left
                          · intro w' hS'
                            obtain ⟨s0, s1⟩ := hS'
                            go_simp
                            rfl
                          rotate_left
                          go_frame
                          refine takeT (i := 1) (v := ?_) rfl rfl (by kernel_rfl) (fun _ _ _ h => h) rfl ?_ HS ?_
                          rotate_left
                          · intro w' hS'
                            obtain ⟨s0, s1⟩ := hS'
                            go_simp
                            rfl
                          rotate_left
                          go_frame
                          refine takeT (i := 2) (v := ?_) rfl rfl (by kernel_rfl) (fun _ _ _ h => h) rfl ?_ HS ?_
                          rotate_left
                          · intro w' hS'
                            obtain ⟨s0, s1⟩ := hS'
                            go_simp
                            rfl
                          rotate_left
                          go_frame
                          refine takeT (i := 3) (v := ?_) rfl rfl (by kernel_rfl) (fun _ _ _ h => h) rfl ?_ HS ?_
                          rotate_left
                          · intro w' hS'
                            obtain ⟨s0, s1⟩ := hS'
                            go_simp
                            rfl
                          rotate_left
                          go_frame
                          refine takeT (i := 4) (v := ?_) rfl rfl (by kernel_rfl) (fun _ _ _ h => h) rfl ?_ HS ?_
                          rotate_left
                          · intro w' hS'
                            obtain ⟨s0, s1⟩ := hS'
                            go_simp
                            rfl
                          rotate_left
                          go_frame
                          refine takeT (i := 5) (v := ?_) rfl rfl (by kernel_rfl) (fun _ _ _ h => h) rfl ?_ HS ?_
                          rotate_left
                          · intro w' hS'
                            obtain ⟨s0, s1⟩ := hS'
                            go_simp
                            rfl
                          rotate_left
                          go_frame
                          refine takeT (i := 6) (v := ?_) rfl rfl (by kernel_rfl) (fun _ _ _ h => h) rfl ?_ HS ?_
                          rotate_left
                          · intro w' hS'
                            obtain ⟨s0, s1⟩ := hS'
                            go_simp
                            rfl
                          rotate_left
                          go_frame
                          refine takeT (i := 7) (v := ?_) rfl rfl (by kernel_rfl) (fun _ _ _ h => h) rfl ?_ HS ?_
                          rotate_left
                          · intro w' hS'
                            obtain ⟨s0, s1⟩ := hS'
                            go_simp
                            rfl
                          rotate_left
                          go_frame
                          refine takeT (i := 8) (v := ?_) rfl rfl (by kernel_rfl) (fun _ _ _ h => h) rfl ?_ HS ?_
                          rotate_left
                          · intro w' hS'
                            obtain ⟨s0, s1⟩ := hS'
                            go_simp
                            rfl
                          rotate_left
                          go_frame
                          refine takeT (i := 9) (v := ?_) rfl rfl (by kernel_rfl) (fun _ _ _ h => h) rfl ?_ HS ?_
                          rotate_left
                          · intro w' hS'
                            obtain ⟨s0, s1⟩ := hS'
                            go_simp
                            rfl
                          rotate_left
                          go_frame
                          refine takeT (i := 10) (v := ?_) rfl rfl (by kernel_rfl) (fun _ _ _ h => h) rfl ?_ HS ?_
                          rotate_left
                          · intro w' hS'
                            obtain ⟨s0, s1⟩ := hS'
                            go_simp
                            rfl
                          rotate_left
                          go_frame
                          refine takeT (i := 11) (v := ?_) rfl rfl (by kernel_rfl) (fun _ _ _ h => h) rfl ?_ HS ?_
                          rotate_left
                          · intro w' hS'
                            obtain ⟨s0, s1⟩ := hS'
                            go_simp
                            rfl
                          rotate_left
                          go_frame
                          refine takeT (i := 12) (v := ?_) rfl rfl (by kernel_rfl) (fun _ _ _ h => h) rfl ?_ HS ?_
                          rotate_left
                          · intro w' hS'
                            obtain ⟨s0, s1⟩ := hS'
                            go_simp
                            rfl
                          rotate_left
                          go_frame
                          refine oneT (i := 13) rfl (by kernel_rfl) (fun K hK => ?_)
                          go_simp
                          refine hK.out _ _ (fun _ => ?_) ?_
                          · exact ⟨(World.cell?_of_block (w := W5) (Below.heap_alloc W5 _ _ hlb5)).trans c0, (World.cell?_of_block (w := W5) (Below.heap_alloc W5 _ _ wlt)).trans t0⟩
                          clear hK K
                          refine oneT (i := 14) rfl (by kernel_rfl) (fun K hK => ?_)
                          refine step_append_lies _ (by rfl) (.tmp 144) (.tmp 146) 22 (by rfl) (tb + 1) 3 i0 (.int .i64 0) 1 8 Tryd.underlying22 HI.out.1 HI.out.2.1 HI.out.2.2.1 HI.out.2.2.2 rfl (by decide) x1 _ _ (by rfl) (XO.out.alloc _).drew ⟨W5.heap.size, 0, none⟩ 1 1 [.int .i64 (u : Int)] (by rfl) rfl (World.news_of_block (cs := #[.int .i64 (u : Int)]) (t := 3) (fr := (0, 0)) (heap_alloc_new W5 _)) (by simp [Value.oneCell']) (by decide) (by unfold maxLen; omega) (by omega) (by simp; omega) (W5.heap.size + 1) (by simp) ?_
                          intro g0 cap0 V0 hown0 hgr0 hat0 hlt0
                          have p0' := far_cell hgr0 c0 QL.out
                          have t0' := far_cell hgr0 t0 QT.out
                          have f0' := (far_frozen hgr0 (a := ⟨tb, jj, none⟩) wlt QT.out).trans f0
                          refine hK.out _ _ (fun _ => ⟨p0', t0'⟩) ?_
                          clear hK K
                          have HS0 : (fun w' : World => w'.cell? ⟨lb, u, none⟩ = some (.int .i64 (jj : Int)) ∧ w'.cell? ⟨tb, jj, none⟩ = some x1) V0 := ⟨p0', t0'⟩
                          go_frame
                          refine takeT (i := 15) (v := ?_) rfl rfl (by kernel_rfl) (fun _ _ _ h => h) rfl ?_ HS0 ?_
                          rotate_left
                          · intro w' hS'
                            obtain ⟨s0, s1⟩ := hS'
                            go_simp
                            rfl
                          rotate_left
                          go_frame
                          refine oneT (i := 16) rfl (by kernel_rfl) (fun K hK => ?_)
                          go_simp
                          refine hK.out _ _ (fun h => absurd rfl h) ?_
                          clear hK K
                          refine doneT (by kernel_rfl) ?_ 0
                          have C7 := Lib.hid (CL.out.push hlb hab htg hwt hjN XX.out hgr0 hown0 hat0)
                          have N7 : Hid (Own1 (V0.setCell ⟨tb, jj, none⟩ (.slice (some ⟨g0, 0, none⟩) ((T jj).length + 1) cap0)) w.heap.size 3 (Value.int .i64) (.slice (some ⟨g4, 0, none⟩) (G.nb v).length c4) (up (G.nb v))) := own_same' N5.out (fun b hb => CL.out.push_block XX.out hgr0 hb (by
                              injection hb with hb
                              have hb : g4 = b := hb
                              omega))
                          obtain ⟨W7, hW7⟩ : ∃ W, W = V0.setCell ⟨tb, jj, none⟩ (.slice (some ⟨g0, 0, none⟩) ((T jj).length + 1) cap0) := ⟨_, rfl⟩
                          rw [← hW7] at C7 N7 ⊢
                          clear hW7 c0 t0 f0 p0' t0' f0' hgr0 hown0 hat0 hlt0 HS HS0 N5
                          obtain ⟨g2, z2, hz2, _, _, c0, _, hz3⟩ := C7.out.l.get u (by rw [List.length_set, HP.out.1.ll]; exact hun)
                          injection hz2 with hz2
                          injection hz2 with hz2
                          subst hz2
                          have hz4 : z2 = (jj : Int) := by
                            have := hz3.out
                            rw [List.getElem?_set_self (by rw [HP.out.1.ll]; exact hun)] at this
                            injection this with this
                            exact this.symm
                          rw [hz4] at c0
                          clear hz3 hz4
                          go_wp2
                          go_roundg ((G.nb v).length - (j + 1))
                          case measure => have := HJ.out; omega
                          case rel =>
                            have hsum := Hx.sum_setI left u (jj : Int) (by rw [HP.out.1.ll]; exact hun)
                            rw [HEL.out] at hsum
                            have hent := Hx.entries_upd T jj (T jj ++ [(u : Int)]) N1
                            rw [if_pos hjN, if_pos hjN, List.length_append, List.length_singleton] at hent
                            have hge := PDD.out.lr
                            have hs0 : 0 ≤ (left.set u (jj : Int)).sum := sum_ge_getD _ (fun x hx => (hge x (by rw [List.length_set, HP.out.1.ll] at hx; exact hx)).1)
                            have h3 := HP.out.2.2
                            have h4 := HP.out.1.ge u hun HEG.out
                            rw [HEL.out] at h4
                            exact ⟨j + 1, min i (jj : Int), _, _, _, by have := HJ.out; omega, by go_num, by first | rfl | go_num, C7.out, N7.out, PDD.out, by omega, hs0, by omega, by omega⟩
                      · have hjl : j = (G.nb v).length := by have := HJ.out; omega
                        subst hjl
                        have hdr : (up (G.nb v)).drop (G.nb v).length = [] := List.drop_eq_nil_of_le (by rw [up_length]; exact Nat.le_refl _)
                        rw [hdr] at HP
                        go_wp2
                        go_roundg (3 * left.sum + Hx.entries T N1 + (M + 1 - i)).toNat
                        case measure => have := HP.out.2.2; have := HP.out.2.1; have := HCC.out; omega
                        case rel =>
                          have h3 := HP.out.2.2
                          have h4 := HP.out.2.1
                          exact ⟨i, k', left, ats', gone', T, vs, rfl, rfl, HC.out.dropF, HP.out.1, by omega, by omega, by omega, by omega, hmx⟩
                  · have hzb : (z2 != (q : Int)) = true := by simpa using hz
                    go_wp2
                    go_roundg (3 * left.sum + Hx.entries (Hx.updT T q ys) N1 + (M + 1 - (q : Int))).toNat
                    case measure => have := HP.out.2.2; have := HEN.out; omega
                    case rel =>
                      have := HP.out.2.2
                      have := HEN.out
                      exact ⟨(q : Int), k, _, _, _, _, _, rfl, rfl, CP.out, HST.out (.inr (by rw [HEL.out]; exact hz)), by omega, by omega, by omega, by omega, hk1⟩
            · have hM1 : M < i := by omega
              go_wp2
              go_ret
              refine ⟨HC.out.bel, _, rfl, ats, ?_, HP.out.1.fin (by omega)⟩
              exact HC.out.a
end Go.Proofs.YthbojpaghbbnnaaDoor
namespace Go.Proofs.YthbojpaghbbnnaaDoor.Z
open Go Go.RowKit
set_option linter.unusedVariables false
set_option linter.unusedSimpArgs false
abbrev nbsOf (G : Gr) : Nat → List Int := fun v => up (G.nb v)
open Classical in
/-- The cores of a graph, by what a core is. -/
noncomputable def coresOf (G : Gr) : List Int := if h : ∃ c, Hx.IsCores G.n (nbsOf G) c then Classical.choose h else []
theorem coresOf_is {G : Gr} {c : List Int} (h : Hx.IsCores G.n (nbsOf G) c) : coresOf G = c := by
  unfold coresOf
  rw [dif_pos ⟨c, h⟩]
  exact (Classical.choose_spec (⟨c, h⟩ : ∃ c, Hx.IsCores G.n (nbsOf G) c)).uniq h
namespace Cores
abbrev ps : List PM := [.val (.obj 0)]
abbrev rs : List PM := [.own 3 I64]
noncomputable def pre (g : Option Gr) : Bool := g.isSome && decide ((gr g).n ≤ 4096)
noncomputable def fn (g : Option Gr) : (List Int) × Unit := (coresOf (gr g), ())
noncomputable def sig : Sig := ⟨ps, rs, fun d => match d with
  | (g, _) => pre g, fun d => match d with
  | (g, _) => fn g, true⟩
theorem sound : Sound Tryd.prog rho 37 sig := sound1o (fun x : Int => [Value.int .i64 x]) (fun _ _ _ => rfl) (fun (g : Option Gr) hp w U v hU h0 => by
  have hp := (show (g.isSome && decide ((gr g).n ≤ 4096)) = true from hp)
  rw [Bool.and_eq_true] at hp
  obtain ⟨G, lo, hi, rfl, hG⟩ := pg_in h0 hp.1
  refine (cores_walk w hG (of_decide_eq_true hp.2)).mono ?_
  rintro e w' ⟨hb, u, c, rfl, hu, hc⟩
  refine ⟨hb, u, rfl, ?_⟩
  have e1 : (fn (some G)).1 = c := coresOf_is hc
  rw [e1, flat_one]
  exact hu)
theorem enters : Enters Tryd.prog 37 := enters_of (fn := Tryd.f37) (by kernel_rfl) (by kernel_rfl) (by kernel_rfl)
theorem okR : Enters Tryd.prog 37 ∧ Sound Tryd.prog rho 37 sig := ⟨enters, sound⟩
end Cores
end Go.Proofs.YthbojpaghbbnnaaDoor.Z
namespace Go.Proofs.YthbojpaghbbnnaaDoor.Z
open Go Go.RowKit Go.ChangeShapes Go.WideShapes Go.ChangeAt
set_option linter.unusedVariables false
set_option linter.unusedSimpArgs false
section
variable {ρ : Obs} {H : Type} {enc : TypeId × Value → H} {P : Program} {w : World}
abbrev U0 : Nat → Prop := fun _ => False
/-- Cells that are read as of type id are a plain value, of which W holds. -/
def Opens (ρ : Obs) (enc : TypeId × Value → H) (P : Program) (w : World) (id : TypeId) (t : T) (W : t.den → Prop) : Prop :=
  ∀ (fuel : Nat) (cs : List Value) (x : DataW H × List MemPlace), DataW.trod enc P w 0 (fun _ => true) true fuel id cs = some x → ∃ y : t.den, ICs ρ U0 w t cs y ∧ W y
theorem opens_int {id : TypeId} {k : IntKind} (h : P.underlying id = some (.int k)) : Opens ρ enc P w id (.int k) (fun x : Int => (Lit.int k x).wf = true) := by
  intro fuel cs x hx
  obtain ⟨n, rfl, _, hw⟩ := DataW.trod_int h hx
  exact ⟨n, rfl, hw⟩
theorem opens_bool {id : TypeId} (h : P.underlying id = some .bool) : Opens ρ enc P w id .bool (fun _ => True) := by
  intro fuel cs x hx
  obtain ⟨b, rfl, _⟩ := DataW.trod_bool h hx
  exact ⟨b, rfl, trivial⟩
theorem opens_two {id : TypeId} {f0 f1 : Field} {t0 t1 : T} {W0 : t0.den → Prop} {W1 : t1.den → Prop} (h : P.underlying id = some (.struct #[f0, f1])) (hc : P.cellsOf id = P.cellsOf f0.type + P.cellsOf f1.type)
    (o0 : f0.offset = 0) (o1 : f1.offset = P.cellsOf f0.type) (h0 : Opens ρ enc P w f0.type t0 W0) (h1 : Opens ρ enc P w f1.type t1 W1) : Opens ρ enc P w id (.pair t0 t1) (fun x => W0 x.1 ∧ W1 x.2) := by
  intro fuel cs x hx
  obtain ⟨xs, n, _, _, hl, hxl, hf⟩ := DataW.trod_struct h hx
  have g0 := hf 0 f0 rfl
  have g1 := hf 1 f1 rfl
  rw [o0, List.drop_zero, List.getElem?_eq_getElem (by rw [hxl]; simp)] at g0
  rw [o1, List.take_of_length_le (by rw [List.length_drop]; omega), List.getElem?_eq_getElem (by rw [hxl]; simp)] at g1
  obtain ⟨y0, q0, k0⟩ := h0 _ _ _ g0
  obtain ⟨y1, q1, k1⟩ := h1 _ _ _ g1
  exact ⟨(y0, y1), ⟨_, _, (List.take_append_drop _ _).symm, q0, q1⟩, k0, k1⟩
theorem opens_three {id : TypeId} {f0 f1 f2 : Field} {t0 t1 t2 : T} {W0 : t0.den → Prop} {W1 : t1.den → Prop} {W2 : t2.den → Prop} (h : P.underlying id = some (.struct #[f0, f1, f2]))
    (hc : P.cellsOf id = P.cellsOf f0.type + P.cellsOf f1.type + P.cellsOf f2.type) (o0 : f0.offset = 0) (o1 : f1.offset = P.cellsOf f0.type) (o2 : f2.offset = P.cellsOf f0.type + P.cellsOf f1.type)
    (h0 : Opens ρ enc P w f0.type t0 W0) (h1 : Opens ρ enc P w f1.type t1 W1) (h2 : Opens ρ enc P w f2.type t2 W2) : Opens ρ enc P w id (.pair t0 (.pair t1 t2)) (fun x => W0 x.1 ∧ W1 x.2.1 ∧ W2 x.2.2) := by
  intro fuel cs x hx
  obtain ⟨xs, n, _, _, hl, hxl, hf⟩ := DataW.trod_struct h hx
  have g0 := hf 0 f0 rfl
  have g1 := hf 1 f1 rfl
  have g2 := hf 2 f2 rfl
  rw [o0, List.drop_zero, List.getElem?_eq_getElem (by rw [hxl]; simp)] at g0
  rw [o1, List.getElem?_eq_getElem (by rw [hxl]; simp)] at g1
  rw [o2, List.take_of_length_le (by rw [List.length_drop]; omega), List.getElem?_eq_getElem (by rw [hxl]; simp), ← List.drop_drop] at g2
  obtain ⟨y0, q0, k0⟩ := h0 _ _ _ g0
  obtain ⟨y1, q1, k1⟩ := h1 _ _ _ g1
  obtain ⟨y2, q2, k2⟩ := h2 _ _ _ g2
  exact ⟨(y0, y1, y2), ⟨_, _, (List.take_append_drop _ _).symm, q0, _, _, (List.take_append_drop _ _).symm, q1, q2⟩, k0, k1, k2⟩
theorem cell_spot {a : Addr} {v : Value} (h : w.cell? a = some v) : a.spot = none := by
  unfold World.cell? at h
  split at h
  · split at h
    · cases h
    · rename_i hs
      cases hsp : a.spot with
      | none => rfl
      | some x => rw [hsp] at hs; simp at hs
  · cases h
theorem add_add (a : Addr) (m n : Nat) : (a.add m).add n = a.add (m + n) := by
  unfold Addr.add
  by_cases hm : m = 0
  · subst hm
    simp
  · by_cases hn : n = 0
    · subst hn
      simp
    · rw [if_neg hm, if_neg hn, if_neg (by omega)]
      simp only [Addr.mk.injEq]
      exact ⟨trivial, by omega, trivial⟩
theorem opens_list {id e : TypeId} {t : T} {W : t.den → Prop} (h : P.underlying id = some (.slice e)) (hc : P.cellsOf e = t.size) (he : Opens ρ enc P w e t W) : Opens ρ enc P w id (.list t) (fun xs => List.length xs ≤ maxLen ∧ ∀ x ∈ xs, W x) := by
  intro fuel cs x hx
  rcases DataW.trod_slice h hx with ⟨rfl, _⟩ | ⟨a, len, cap, elems, rest, n, _, rfl, _, _, hl, hm, hlen, hel, _, _⟩
  · exact ⟨([] : List t.den), ⟨none, 0, [], rfl, Nat.zero_le _, Nat.le_refl _, rfl, fun h => absurd h (by simp)⟩, Nat.zero_le _, by simp⟩
  · have key : ∀ k, k ≤ len → ∃ (ds : List Value) (ys : List t.den), ys.length = k ∧ Els (ICs ρ U0 w t) ds ys ∧ (∀ x ∈ ys, W x) ∧ ∀ j, j < ds.length → w.cell? (a.add j) = ds[j]? := by
      intro k
      induction k with
      | zero => exact fun _ => ⟨[], [], rfl, rfl, by simp, by simp⟩
      | succ k ih =>
        intro hk
        obtain ⟨ds, ys, h1, h2, h3, h4⟩ := ih (by omega)
        have h5 := hel k (by omega)
        rw [List.getElem?_eq_getElem (by omega), Option.bind_eq_some_iff] at h5
        obtain ⟨c, h6, h7⟩ := h5
        obtain ⟨y, q, wy⟩ := he _ _ _ h7
        obtain ⟨_, hcl, hcell⟩ := World.cells?_some h6
        have hdl : ds.length = k * t.size := by rw [Els.length (fun _ _ q => ICs.length q) h2, h1]
        refine ⟨ds ++ c, ys ++ [y], by simp [h1], h2.append ⟨c, [], by simp, q, rfl⟩, fun x hx => ?_, fun j hj => ?_⟩
        · rcases List.mem_append.1 hx with hx | hx
          · exact h3 x hx
          · rw [List.mem_singleton] at hx; subst hx; exact wy
        · by_cases hj1 : j < ds.length
          · rw [List.getElem?_append_left hj1]
            exact h4 j hj1
          · rw [List.getElem?_append_right (by omega)]
            have := hcell (j - ds.length) (by rw [List.length_append] at hj; omega)
            rw [add_add, hc, ← hdl, show ds.length + (j - ds.length) = j by omega] at this
            exact this
    obtain ⟨ds, ys, h1, h2, h3, h4⟩ := key len (Nat.le_refl _)
    subst h1
    have hdl : ds.length = ys.length * t.size := Els.length (fun _ _ q => ICs.length q) h2
    refine ⟨ys, ⟨some a, cap, ds, rfl, by omega, hl, h2, fun hp => ?_⟩, by omega, h3⟩
    have hd : 0 < ds.length := by rw [hdl]; exact Nat.mul_pos hp (T.size_pos t)
    have h5 := h4 0 hd
    rw [List.getElem?_eq_getElem hd, show a.add 0 = a from rfl] at h5
    have hs := cell_spot h5
    have hb := cell_lt h5
    obtain ⟨b, off, sp⟩ := a
    obtain rfl : sp = none := hs
    refine ⟨b, off, rfl, fun w' ha j hj => ?_⟩
    rw [World.cell?_of_block (ha.block b hb (fun h => h))]
    have := h4 j hj
    by_cases hj0 : j = 0
    · subst hj0; exact this
    · unfold Addr.add at this
      rw [if_neg hj0] at this
      exact this
/-- An argument's own value. -/
theorem ird_of {id : TypeId} {t : T} {W : t.den → Prop} {v : Value} {d : DataW H} {p : List MemPlace} (h : Opens ρ enc P w id t W) (hv : v = pack t v.cells.toList) (hd : DataW.Trod enc P w 0 (fun _ => true) true id v d p) : ∃ y, IRd ρ U0 w t v y ∧ W y := by
  obtain ⟨fuel, hf⟩ := hd
  obtain ⟨y, q, hy⟩ := h _ _ _ hf
  exact ⟨y, ⟨_, hv, q⟩, hy⟩
theorem lit_wf {x : Int} (h : (Lit.int .i64 x).wf = true) : Wf x := by
  unfold Wf
  simp [Lit.wf, IntKind.min, IntKind.max, IntKind.signed, IntKind.bits] at h
  omega
end
/-- The walk of a statement: a plain function that tells true of all plain values that may be handed in. -/
theorem calls_true {P : Program} {ρ : Obs} {f : FuncId} {ps : List PM} {pre : Ds (ps.map PM.ty) → Bool} {fn : Ds (ps.map PM.ty) → Ds (muts ps ++ ([.val .bool] : List PM).map PM.ty)} (hs : Sound P ρ f ⟨ps, [.val .bool], pre, fn, false⟩) (hn : nOwn ps = 0)
    (d : Ds (ps.map PM.ty)) (hp : pre d = true) (hf : (dr (fn d)).1 = true) (w : World) (vs : List Value) (hK : KOk ρ U0 w) (ha : ArgsOk ρ U0 w (fun _ => nilV) ps d vs 0) : Calls P f vs.toArray w fun e w' => e = .returned (.bool true) ∧ Below w.heap.size w w' := by
  have ap : Apart (nOwn ps) (fun _ => nilV) := by rw [hn]; exact apart0 _
  refine (hs d hp w U0 U0 (fun _ => nilV) vs (fun _ h => h.elim) (fun _ h => h.elim) (fun _ _ h => h) ap ?_ ?_).mono ?_
  · have e : Us U0 (nOwn ps) (fun _ => nilV) = U0 := by
      funext b
      refine propext ⟨fun h => h.elim id (fun ⟨i, hi, _⟩ => by rw [hn] at hi; exact absurd hi (Nat.not_lt_zero i)), fun h => h.elim⟩
    show KOk ρ (Us U0 (nOwn ps) (fun _ => nilV)) w
    rw [e]
    exact hK
  · have e : Us U0 (nOwn ps) (fun _ => nilV) = U0 := by
      funext b
      refine propext ⟨fun h => h.elim id (fun ⟨i, hi, _⟩ => by rw [hn] at hi; exact absurd hi (Nat.not_lt_zero i)), fun h => h.elim⟩
    show ArgsOk ρ (Us U0 (nOwn ps) (fun _ => nilV)) w (fun _ => nilV) ps d vs 0
    rw [e]
    exact ha
  · rintro e w' ⟨rvs, hd', rfl, hag, _, _, _, _, hr⟩
    match rvs, hr with
    | [v], ⟨h1, _⟩ =>
      refine ⟨?_, hag.below (fun b _ hb => hb.elim id (fun ⟨i, hi, _⟩ => by
        have hi' : i < nOwn ps := hi
        rw [hn] at hi'
        exact absurd hi' (Nat.not_lt_zero i)))⟩
      obtain rfl := h1.bool
      have e : (dr (fn d)).1 = true := hf
      show Ending.returned (.bool (dr (fn d)).1) = _
      rw [e]
end Go.Proofs.YthbojpaghbbnnaaDoor.Z
namespace Go.Proofs.YthbojpaghbbnnaaDoor
set_option linter.unusedVariables false
set_option linter.unusedSimpArgs false
/-- One change: what it says of the graph behind it. -/
theorem adj_ne {G : Gr} (hG : G.Ok) {a b : Nat} (h : G.adj a b = true) : a ≠ b := fun e => by subst e; rw [hG.irr] at h; cases h
def isPair (c : Chg) (a b : Nat) : Prop := (c.1.1 = a ∧ c.1.2 = b) ∨ (c.1.1 = b ∧ c.1.2 = a)
theorem edges_pos {G : Gr} (hG : G.Ok) {u v : Nat} (h : G.adj u v = true) : 0 < G.edges := by
  have hne := adj_ne hG h
  rw [Gr.edges]
  rcases Nat.lt_or_gt_of_ne hne with hl | hl
  · exact List.length_pos_of_mem ((Gr.mem_pairs hG).2 ⟨hl, h⟩)
  · exact List.length_pos_of_mem ((Gr.mem_pairs hG).2 ⟨hl, by rw [hG.symm]; exact h⟩)
theorem ofPairs_adj {n : Nat} {ps : List (Int × Int)} {u v : Nat} : (Gr.ofPairs n ps).adj u v = true ↔ u ≠ v ∧ ∃ p ∈ ps, (p.1 = (u : Int) ∧ p.2 = (v : Int)) ∨ (p.1 = (v : Int) ∧ p.2 = (u : Int)) := by
  simp only [Gr.ofPairs, Bool.and_eq_true, decide_eq_true_eq, List.any_eq_true, Bool.or_eq_true]
theorem ofPairs_ok {n : Nat} {ps : List (Int × Int)} (hn : n ≤ 16777216) (h : ∀ p ∈ ps, okP n p = true) : (Gr.ofPairs n ps).Ok where
  symm u v := Bool.eq_iff_iff.2 (by
    rw [ofPairs_adj, ofPairs_adj]
    constructor
    · rintro ⟨h1, p, h2, h3⟩; exact ⟨fun e => h1 e.symm, p, h2, h3.symm⟩
    · rintro ⟨h1, p, h2, h3⟩; exact ⟨fun e => h1 e.symm, p, h2, h3.symm⟩)
  irr u := Bool.eq_false_iff.2 (fun k => (ofPairs_adj.1 k).1 rfl)
  rng u v k := by
    obtain ⟨_, p, h2, h3⟩ := ofPairs_adj.1 k
    have h4 := okP_iff.1 (h p h2)
    have : (Gr.ofPairs n ps).n = n := rfl
    omega
  small := hn
end Go.Proofs.YthbojpaghbbnnaaDoor
namespace Go.Proofs.YthbojpaghbbnnaaDoor.Z
open Go Go.RowKit
set_option linter.unusedVariables false
set_option linter.unusedSimpArgs false
section
variable {ρ : Obs} {P : Program} {f : FuncId}
theorem sound11K {fr : Bool} {t0 r0 : T} {pre : t0.den → Bool} {fn : t0.den → r0.den × Unit} (h : ∀ x0, pre x0 = true → ∀ w U U' v0, (∀ b, U' b → b < w.heap.size) → ρ 3 w (.bool true) () → IRd ρ U w t0 v0 x0 → Calls P f #[v0] w (Res1 ρ U' w r0 (fn x0).1)) :
    Sound P ρ f ⟨[.val t0], [.val r0], fun d => match d with | (x0, _) => pre x0, fun d => match d with | (x0, _) => fn x0, fr⟩ := by
  intro d hp w U0 U1 hd0 vs hu hu1 hfr hap hK ha
  obtain ⟨x0, _⟩ := d
  match vs, ha with
  | [v0], ⟨h0, _⟩ =>
    refine (h x0 hp w U0 U1 v0 (fun b hb => (hu1 b hb).1) (hK w (Ag.refl _ _)) (h0.tr (tr0 w))).mono ?_
    rintro e w' ⟨hb, u, rfl, hr⟩
    exact ⟨[u], hd0, rfl, Ag.of_below hb _, fun _ hi => absurd hi (Nat.not_lt_zero _), fun _ hi => absurd hi (Nat.not_lt_zero _), apart0 _, trivial, hr.tr (tr0' w'), trivial⟩
end
namespace Tz
abbrev ps : List PM := [.val U64]
abbrev rs : List PM := [.val I64]
noncomputable def pre (x : Int) : Bool := decide (0 ≤ x) && decide (x < 18446744073709551616)
noncomputable def fn (x : Int) : Int × Unit := ((Lib.ctz 64 x.toNat : Int), ())
noncomputable def sig : Sig := ⟨ps, rs, fun d => match d with
  | (x, _) => pre x, fun d => match d with
  | (x, _) => fn x, false⟩
set_option maxHeartbeats 1000000 in
theorem core (x k idx : Nat) (w : World) (hx0 : ((x : Int) == 0) = false)
    (key : bits BinOp.and IntKind.u64 (x : Int) (IntKind.u64.wrap (-(x : Int))) * 285870213051353865 % 18446744073709551616 / 288230376151711744 = (idx : Int) ∨ IntKind.u64.wrap (bits BinOp.and IntKind.u64 (x : Int) (IntKind.u64.wrap (-(x : Int))) * 285870213051353865) / 288230376151711744 = (idx : Int))
    (key2 : IntKind.u64.wrap (bits BinOp.and IntKind.u64 (x : Int) (IntKind.u64.wrap (-(x : Int))) * 285870213051353865) / 288230376151711744 = (idx : Int))
    (hi : idx < 64) (hk : k < 64) (hcell : w.cell? ⟨0, idx, none⟩ = some (.int .u8 k)) :
    Calls Tryd.prog 71 #[.int .u64 x] w fun e w' => e = .returned (.int .i64 k) ∧ w' = w := by
  go_enter Tryd.func71, Tryd.ntmps71
  go_wp2_with (simp only [key2])
  go_ret
  exact ⟨rfl, rfl⟩
theorem zero (w : World) : Calls Tryd.prog 71 #[.int .u64 0] w fun e w' => e = .returned (.int .i64 64) ∧ w' = w := by
  go_enter Tryd.func71, Tryd.ntmps71
  go_wp2
  go_ret
  exact ⟨rfl, rfl⟩
theorem walk (x : Nat) (hx : x < 18446744073709551616) (w : World) (hT : Go.Proofs.TabAt 0 Lib.deBruijn64tab w) :
    Calls Tryd.prog 71 #[.int .u64 x] w fun e w' => e = .returned (.int .i64 (Lib.ctz 64 x)) ∧ w' = w := by
  by_cases hx0 : x = 0
  · subst hx0
    exact zero w
  · obtain ⟨hlow, hk⟩ := Lib.lowest_bit 64 x hx0 hx
    obtain ⟨hi, htab⟩ := Lib.deBruijn64_at _ hk
    have hcell := hT _ hi
    rw [htab] at hcell
    have k2 := Go.Proofs.tz64_key x _ hx hx0 hlow
    exact core x _ _ w (by simp; omega) (.inr k2) k2 hi hk hcell
theorem sound : Sound Tryd.prog rho 71 sig := sound11K (fun (x : Int) hp w U U' v0 hU hK h0 => by
  have hp := (show (decide (0 ≤ x) && decide (x < 18446744073709551616)) = true from hp)
  rw [Bool.and_eq_true, decide_eq_true_eq, decide_eq_true_eq] at hp
  obtain ⟨n, rfl⟩ := Int.eq_ofNat_of_zero_le hp.1
  obtain ⟨cs, rfl, h0⟩ := h0
  have h0' : cs = [.int .u64 (n : Int)] := h0
  subst h0'
  refine (walk n (by omega) w hK).mono ?_
  rintro e w' ⟨rfl, rfl⟩
  exact ⟨Below.refl _ _, _, rfl, ⟨[.int .i64 (Lib.ctz 64 n : Int)], rfl, rfl⟩⟩)
theorem enters : Enters Tryd.prog 71 := enters_of (fn := Tryd.f71) (by kernel_rfl) (by kernel_rfl) (by kernel_rfl)
theorem okR : Enters Tryd.prog 71 ∧ Sound Tryd.prog rho 71 sig := ⟨enters, sound⟩
end Tz
end Go.Proofs.YthbojpaghbbnnaaDoor.Z
namespace Go.Proofs.YthbojpaghbbnnaaDoor
open Go Go.RowKit
set_option linter.unusedVariables false
set_option linter.unusedSimpArgs false
theorem shard_clo (W : World) {vb lb b off ab ao n c h : Nat} {v x : Int} (hv : W.cell? ⟨vb, 0, none⟩ = some (.int .i64 v)) (hl : W.cell? ⟨lb, 0, none⟩ = some (.pointer (some ⟨b, off, none⟩)))
    (hs : W.cell? ⟨b, off, none⟩ = some (.slice (some ⟨ab, ao, none⟩) n c)) (hh : h < n) (hn : n ≤ 4294967296) (hx : W.cell? ⟨ab, ao + h, none⟩ = some (.int .i64 x)) :
    Calls Tryd.prog 64 #[.int .i64 h, .pointer (some ⟨vb, 0, none⟩), .pointer (some ⟨lb, 0, none⟩)] W fun e w' => e = .returned (.bool (decide (v < x))) ∧ Below W.heap.size W w' := by
  go_enter Tryd.func64, Tryd.ntmps64
  go_wp2
  go_quiet (fail)
  go_wp2
  go_ret
  exact ⟨rfl, below_drewN (Below.refl _ _) _⟩
/-- What the search stands on, as long as old memory stays. -/
structure ShAt (W : World) (vb lb b off ab ao n c : Nat) (v : Int) (cuts : List Int) : Prop where
  lt : vb < W.heap.size ∧ lb < W.heap.size ∧ b < W.heap.size ∧ ab < W.heap.size
  cv : W.cell? ⟨vb, 0, none⟩ = some (.int .i64 v)
  cl : W.cell? ⟨lb, 0, none⟩ = some (.pointer (some ⟨b, off, none⟩))
  cs : W.cell? ⟨b, off, none⟩ = some (.slice (some ⟨ab, ao, none⟩) n c)
  cx : ∀ h, h < n → W.cell? ⟨ab, ao + h, none⟩ = some (.int .i64 (cuts.getD h 0))
theorem ShAt.below {W W' : World} {vb lb b off ab ao n c : Nat} {v : Int} {cuts : List Int} (h : ShAt W vb lb b off ab ao n c v cuts) (hb : Below W.heap.size W W') : ShAt W' vb lb b off ab ao n c v cuts := by
  obtain ⟨h1, h2, h3, h4⟩ := h.lt
  have s := hb.size
  have f : ∀ (x j : Nat) (y : Value), x < W.heap.size → W.cell? ⟨x, j, none⟩ = some y → W'.cell? ⟨x, j, none⟩ = some y := fun x j y hx hy => by
    rw [← hy]
    exact World.cell?_of_block (w := W) (a := ⟨x, j, none⟩) (hb.block x hx)
  exact ⟨⟨by omega, by omega, by omega, by omega⟩, f _ _ _ h1 h.cv, f _ _ _ h2 h.cl, f _ _ _ h3 h.cs, fun k hk => f _ _ _ h4 (h.cx k hk)⟩
/-- How many cuts are not above v. -/
theorem search_any (w : World) {vb lb b off ab ao n c : Nat} {v : Int} {cuts : List Int} (hS : ShAt w vb lb b off ab ao n c v cuts) (hn : n ≤ 4294967296) (hsrt : ∀ i j, i < j → j < n → cuts.getD i 0 < cuts.getD j 0) :
    Calls Tryd.prog 63 #[.int .i64 n, .func (.func 64) #[] #[.pointer (some ⟨vb, 0, none⟩), .pointer (some ⟨lb, 0, none⟩)]] w fun e w' => ∃ k : Nat, e = .returned (.int .i64 k) ∧ k ≤ n ∧ (∀ i, i < k → cuts.getD i 0 ≤ v) ∧ (∀ i, k ≤ i → i < n → v < cuts.getD i 0) ∧ Below w.heap.size w w' := by
  have HS := Lib.hid hS
  have HR := Lib.hid hsrt
  clear hS hsrt
  go_enter Tryd.func63, Tryd.ntmps63
  go_wp2
  go_loopg [5, 6] n (fun g i j wr => ∃ p q : Nat, g = q - p ∧ p ≤ q ∧ q ≤ n ∧ i = .int .i64 (p : Int) ∧ j = .int .i64 (q : Int) ∧ Hid ((∀ t, t < p → cuts.getD t 0 ≤ v) ∧ (∀ t, q ≤ t → t < n → v < cuts.getD t 0) ∧ Below w.heap.size w wr))
  case atStart => exact ⟨0, n, by omega, by omega, by omega, rfl, rfl, fun t ht => by omega, fun t h1 h2 => by omega, Below.refl _ _⟩
  case round =>
    obtain ⟨p, q, rfl, hpq, hqn, rfl, rfl, HI⟩ := hrel
    by_cases hlt : p < q
    · have HA := Lib.hid (HS.out.below HI.out.2.2)
      have hm : p ≤ (p + q) / 2 ∧ (p + q) / 2 < q := by omega
      obtain ⟨m, hme⟩ : ∃ m, m = (p + q) / 2 := ⟨_, rfl⟩
      have he : ((p : Int) + (q : Int)) / 2 = (m : Int) := by omega
      rw [← hme] at hm
      have HE := Lib.hid he
      clear he hme
      obtain ⟨x, hx⟩ : ∃ x, cuts.getD m 0 = x := ⟨_, rfl⟩
      have HX := Lib.hid hx
      clear hx
      by_cases hv : v < x
      · have hvd : decide (v < x) = true := decide_eq_true hv
        go_wp2_with (go_at_call 64; rw [HE.out]; refine (shard_clo wr HA.out.cv HA.out.cl HA.out.cs (show m < n by omega) hn (by rw [HA.out.cx m (by omega), HX.out])).mono ?_; rintro e w' ⟨rfl, hb'⟩; rw [hvd])
        have HB := Lib.hid hb'
        clear hb'
        go_roundg (m - p)
        case measure => omega
        case rel =>
          refine ⟨p, m, rfl, by omega, by omega, rfl, ?_, HI.out.1, fun t h1 h2 => ?_, HI.out.2.2.trans (HB.out.mono HI.out.2.2.size)⟩
          · go_num
          · rcases Nat.eq_or_lt_of_le h1 with h3 | h3
            · rw [← h3, HX.out]; exact hv
            · have := HR.out m t h3 h2
              have hx := HX.out
              omega
      · have hvd : decide (v < x) = false := decide_eq_false hv
        go_wp2_with (go_at_call 64; rw [HE.out]; refine (shard_clo wr HA.out.cv HA.out.cl HA.out.cs (show m < n by omega) hn (by rw [HA.out.cx m (by omega), HX.out])).mono ?_; rintro e w' ⟨rfl, hb'⟩; rw [hvd])
        have HB := Lib.hid hb'
        clear hb'
        go_roundg (q - (m + 1))
        case measure => omega
        case rel =>
          refine ⟨m + 1, q, rfl, by omega, by omega, ?_, rfl, fun t h1 => ?_, HI.out.2.1, HI.out.2.2.trans (HB.out.mono HI.out.2.2.size)⟩
          · go_num
          · rcases Nat.lt_or_ge t m with h3 | h3
            · have := HR.out t m h3 (by omega)
              have hx := HX.out
              omega
            · have : t = m := by omega
              rw [this, HX.out]; omega
    · go_wp2
      go_ret
      exact ⟨p, rfl, by omega, HI.out.1, fun i h1 h2 => HI.out.2.1 i (by omega) h2, HI.out.2.2⟩
/-- A layout in memory. -/
structure LayAt (w : World) (vl : Value) (b off : Nat) (A : Option Addr) (c : Nat) (cuts : List Int) : Prop where
  eq : vl = .pointer (some ⟨b, off, none⟩)
  lt : b < w.heap.size
  cs : w.cell? ⟨b, off, none⟩ = some (.slice A cuts.length c)
  el : 0 < cuts.length → ∃ ab ao, A = some ⟨ab, ao, none⟩ ∧ ab < w.heap.size ∧ ∀ h, h < cuts.length → w.cell? ⟨ab, ao + h, none⟩ = some (.int .i64 (cuts.getD h 0))
/-- The shard of a vertex. -/
def shardOf (cuts : List Int) (v : Int) : Int := if 0 ≤ v ∧ v < cuts.getD (cuts.length - 1) 0 then (cuts.countP (fun x => decide (x ≤ v)) : Int) else -1
theorem layN_any (w : World) {b off c : Nat} {A : Option Addr} {cuts : List Int} (hcs : w.cell? ⟨b, off, none⟩ = some (.slice A cuts.length c))
    (hel : 0 < cuts.length → ∃ ab ao, A = some ⟨ab, ao, none⟩ ∧ w.cell? ⟨ab, ao + (cuts.length - 1), none⟩ = some (.int .i64 (cuts.getD (cuts.length - 1) 0))) (hn : cuts.length ≤ 4294967296) :
    Calls Tryd.prog 62 #[.pointer (some ⟨b, off, none⟩)] w fun e w' => e = .returned (.int .i64 (cuts.getD (cuts.length - 1) 0)) ∧ ∃ k, w' = w.drewN k := by
  rcases Nat.eq_zero_or_pos cuts.length with h0 | h0
  · have hcz : cuts = [] := List.length_eq_zero_iff.1 h0
    subst hcz
    have hcs' : w.cell? ⟨b, off, none⟩ = some (.slice A 0 c) := hcs
    go_enter Tryd.func62, Tryd.ntmps62
    go_wp2
    go_ret
    exact ⟨rfl, 0, rfl⟩
  · obtain ⟨ab, ao, rfl, hx⟩ := hel h0
    obtain ⟨n, hn'⟩ : ∃ n, n = cuts.length := ⟨_, rfl⟩
    obtain ⟨x, hxe⟩ : ∃ x, x = cuts.getD (cuts.length - 1) 0 := ⟨_, rfl⟩
    rw [← hxe] at hx ⊢
    rw [← hn'] at hx hcs h0 hn
    clear hxe hn'
    go_enter Tryd.func62, Tryd.ntmps62
    go_wp2
    go_quiet (fail)
    go_wp2
    go_ret
    exact ⟨rfl, _, rfl⟩
theorem count_least {cuts : List Int} {v : Int} {k : Nat} (hk : k ≤ cuts.length) (h1 : ∀ i, i < k → cuts.getD i 0 ≤ v) (h2 : ∀ i, k ≤ i → i < cuts.length → v < cuts.getD i 0) : cuts.countP (fun x => decide (x ≤ v)) = k := by
  induction cuts generalizing k with
  | nil => simp at hk; subst hk; rfl
  | cons x l ih =>
    rw [List.countP_cons]
    cases k with
    | zero =>
      have hx := h2 0 (by omega) (by simp)
      have h0 : x > v := by simpa using hx
      rw [ih (k := 0) (by omega) (fun i hi => by omega) (fun i _ hi => by have := h2 (i + 1) (by omega) (by simpa using hi); simpa using this), if_neg (by rw [decide_eq_true_eq]; omega)]
    | succ k =>
      have h0 : x ≤ v := by have := h1 0 (by omega); simpa using this
      rw [ih (k := k) (by simpa using hk) (fun i hi => by have := h1 (i + 1) (by omega); simpa using this) (fun i hi hl => by have := h2 (i + 1) (by omega) (by simpa using hl); simpa using this), if_pos (by rw [decide_eq_true_eq]; exact h0)]
theorem shard_any (w : World) {vl : Value} {b off c : Nat} {A : Option Addr} {cuts : List Int} (v : Int) (hL : LayAt w vl b off A c cuts) (hn : cuts.length ≤ 4294967296) (hsrt : ∀ i j, i < j → j < cuts.length → cuts.getD i 0 < cuts.getD j 0) :
    Calls Tryd.prog 32 #[vl, .int .i64 v] w fun e w' => e = .returned (.int .i64 (shardOf cuts v)) ∧ Below w.heap.size w w' := by
  obtain ⟨rfl, hlt, hcs, hel⟩ := hL
  have hmf : ∀ (fn : Fn) (first cap : Array Value) (w : World), (Instr.makeFunc fn first cap).run Tryd.prog w = .ok (.func fn first cap) w := fun _ _ _ _ => rfl
  obtain ⟨w1, hw1⟩ : ∃ w1, (w.alloc (.cells #[.pointer (some ⟨b, off, none⟩)] 37)).alloc (.cells #[.int .i64 v] 3) = w1 := ⟨_, rfl⟩
  have hb1 : Below w.heap.size w w1 := by
    rw [← hw1]
    exact ((Below.refl _ _).alloc (Nat.le_refl _) _).alloc (by simp) _
  have hs1 : w1.heap.size = w.heap.size + 2 := by rw [← hw1]; simp
  have cl : w1.cell? ⟨w.heap.size, 0, none⟩ = some (.pointer (some ⟨b, off, none⟩)) := by
    rw [← hw1, World.cell?_alloc_past _ _ _ (by simp), World.cell?_alloc_at _ _ _ _ rfl]; rfl
  have cv : w1.cell? ⟨w.heap.size + 1, 0, none⟩ = some (.int .i64 v) := by
    rw [← hw1, World.cell?_alloc_at _ _ _ _ (by simp)]; rfl
  have old : ∀ (x j : Nat) (y : Value), x < w.heap.size → w.cell? ⟨x, j, none⟩ = some y → w1.cell? ⟨x, j, none⟩ = some y := fun x j y hx hy => by
    rw [← hy]
    exact World.cell?_of_block (w := w) (a := ⟨x, j, none⟩) (hb1.block x hx)
  have cs := old _ _ _ hlt hcs
  have ce : 0 < cuts.length → ∃ ab ao, A = some ⟨ab, ao, none⟩ ∧ w1.cell? ⟨ab, ao + (cuts.length - 1), none⟩ = some (.int .i64 (cuts.getD (cuts.length - 1) 0)) := fun h0 => by
    obtain ⟨ab, ao, h1, h2, h3⟩ := hel h0
    exact ⟨ab, ao, h1, old _ _ _ h2 (h3 _ (by omega))⟩
  have HN : ∀ k, Calls Tryd.prog 62 #[.pointer (some ⟨b, off, none⟩)] (w1.drewN k) fun e w' => e = .returned (.int .i64 (cuts.getD (cuts.length - 1) 0)) ∧ ∃ k', w' = w1.drewN k' := fun k => (layN_any (w1.drewN k) cs ce hn).mono (by
    rintro e w' ⟨rfl, k', rfl⟩
    exact ⟨rfl, k + k', by simp [World.drewN, Nat.add_assoc]⟩)
  have HE := Lib.hid hel
  have HB := Lib.hid hb1
  have HR := Lib.hid hsrt
  have HO := Lib.hid old
  clear hel hb1 hsrt old ce
  obtain ⟨n, hne⟩ : ∃ n, cuts.length = n := ⟨_, rfl⟩
  obtain ⟨x, hxe⟩ : ∃ x, cuts.getD (cuts.length - 1) 0 = x := ⟨_, rfl⟩
  have HX := Lib.hid hxe
  have HL := Lib.hid hne
  have hsh : shardOf cuts v = if 0 ≤ v ∧ v < x then (cuts.countP (fun x => decide (x ≤ v)) : Int) else -1 := by unfold shardOf; rw [hxe]
  rw [hsh]
  rw [hxe] at HN
  rw [hne] at cs hn
  clear hsh hxe hne hcs
  by_cases hv : v < 0
  · rw [if_neg (by omega)]
    go_enter Tryd.func32, Tryd.ntmps32
    go_wp2
    go_quiet ((refine (HN _).mono ?_; rintro e w' ⟨rfl, k', rfl⟩; exact ⟨rfl, _, rfl⟩))
    go_wp2
    go_ret
    exact ⟨rfl, below_drewN HB.out _⟩
  · have hvd : decide (v < 0) = false := decide_eq_false hv
    by_cases hx : x ≤ v
    · rw [if_neg (by omega)]
      go_enter Tryd.func32, Tryd.ntmps32
      go_wp2
      go_quiet ((refine (HN _).mono ?_; rintro e w' ⟨rfl, k', rfl⟩; exact ⟨rfl, _, rfl⟩))
      go_wp2
      go_ret
      exact ⟨rfl, below_drewN HB.out _⟩
    · rw [if_pos (by omega)]
      have hpos : 0 < cuts.length := by
        rcases Nat.eq_zero_or_pos cuts.length with h0 | h0
        · have h1 : cuts = [] := List.length_eq_zero_iff.1 h0
          have h2 := HX.out
          rw [h1] at h2
          have h3 : (0 : Int) = x := h2
          omega
        · exact h0
      obtain ⟨ab, ao, rfl, e2, e3⟩ := HE.out hpos
      have hs0 : ∀ k, ShAt (w1.drewN k) (w.heap.size + 1) w.heap.size b off ab ao n c v cuts := fun k => ⟨⟨by simp; omega, by simp; omega, by simp; omega, by simp; omega⟩, cv, cl, cs, fun h hh => HO.out _ _ _ e2 (e3 h (by rw [HL.out]; exact hh))⟩
      have HS := Lib.hid hs0
      have hr0 : ∀ i j, i < j → j < n → cuts.getD i 0 < cuts.getD j 0 := fun i j h1 h2 => HR.out i j h1 (by rw [HL.out]; exact h2)
      have HRn := Lib.hid hr0
      clear e3 hs0 hr0
      go_enter Tryd.func32, Tryd.ntmps32
      go_wp2
      go_quiet ((refine (HN _).mono ?_; rintro e w' ⟨rfl, k', rfl⟩; exact ⟨rfl, _, rfl⟩))
      go_wp2_with (go_at_call 63; refine (search_any _ (HS.out _) hn HRn.out).mono ?_; rintro e w' ⟨k, rfl, hk1, hk2, hk3, hb'⟩)
      have HK := Lib.hid hk2
      have HJ := Lib.hid hk3
      have HF := Lib.hid hb'
      clear hk2 hk3 hb'
      go_ret
      refine ⟨?_, (below_drewN HB.out _).trans (HF.out.mono (by simp; omega))⟩
      rw [count_least (cuts := cuts) (k := k) (by rw [HL.out]; exact hk1) HK.out (fun i h1 h2 => HJ.out i h1 (by rw [← HL.out]; exact h2))]
      rfl
end Go.Proofs.YthbojpaghbbnnaaDoor
namespace Go.Proofs.YthbojpaghbbnnaaDoor.Z
open Go Go.RowKit
set_option linter.unusedVariables false
set_option linter.unusedSimpArgs false
theorem lay_in {U : Nat → Prop} {w : World} {v : Value} {cuts : List Int} (h : IRd rho U w (.ptr Ly) v (some cuts)) : ∃ b off A c, LayAt w v b off A c cuts ∧ cuts.length ≤ maxLen := by
  obtain ⟨cs, rfl, x, rfl, b, off, ds, rfl, h1, h2⟩ := h
  obtain ⟨A, c, es, rfl, h3, h4, h5, h6⟩ := (show ICs rho U w (.list I64) ds cuts from h1)
  have h7 := h2 w (Ag.refl _ _) 0 (by decide)
  have h8 : w.cell? ⟨b, off, none⟩ = some (.slice A cuts.length c) := h7
  refine ⟨b, off, A, c, ⟨rfl, cell_lt h8, h8, fun hp => ?_⟩, h3⟩
  obtain ⟨ab, ao, rfl, h9⟩ := h6 hp
  have e := els_flat (enc := fun x : Int => [Value.int .i64 x]) (fun _ _ h => h) h5
  rw [flat_one] at e
  have hl : es.length = cuts.length := by rw [e, List.length_map]
  have h10 := fun j (hj : j < es.length) => h9 w (Ag.refl _ _) j hj
  have hx : ∀ h, h < cuts.length → w.cell? ⟨ab, ao + h, none⟩ = some (.int .i64 (cuts.getD h 0)) := fun h hh => by
    rw [h10 h (by omega), e, List.getElem?_map, List.getElem?_eq_getElem hh, List.getD_eq_getElem?_getD, List.getElem?_eq_getElem hh]
    rfl
  exact ⟨ab, ao, rfl, cell_lt (hx 0 hp), hx⟩
/-- Do the cuts rise? -/
def risesB (l : List Int) : Bool := decide (l.Pairwise (· < ·))
theorem rises_iff {l : List Int} : risesB l = true ↔ ∀ i j, i < j → j < l.length → l.getD i 0 < l.getD j 0 := by
  unfold risesB
  rw [decide_eq_true_eq, List.pairwise_iff_getElem]
  constructor
  · intro h i j hij hj
    have := h i j (by omega) hj hij
    rw [List.getD_eq_getElem?_getD, List.getD_eq_getElem?_getD, List.getElem?_eq_getElem hj, List.getElem?_eq_getElem (show i < l.length by omega)]
    exact this
  · intro h i j hi hj hij
    have := h i j hij hj
    rw [List.getD_eq_getElem?_getD, List.getD_eq_getElem?_getD, List.getElem?_eq_getElem hj, List.getElem?_eq_getElem (show i < l.length by omega)] at this
    exact this
namespace Shard
abbrev ps : List PM := [.val (.ptr Ly), .val I64]
abbrev rs : List PM := [.val I64]
noncomputable def pre (l : Option (List Int)) (v : Int) : Bool := l.isSome && risesB (l.getD []) && decide ((l.getD []).length ≤ 4294967296)
noncomputable def fn (l : Option (List Int)) (v : Int) : Int × Unit := (shardOf (l.getD []) v, ())
noncomputable def sig : Sig := ⟨ps, rs, fun d => match d with
  | (l, v, _) => pre l v, fun d => match d with
  | (l, v, _) => fn l v, true⟩
theorem sound : Sound Tryd.prog rho 32 sig := sound21 (fun (l : Option (List Int)) (v : Int) hp w U U' v0 v1 hU h0 h1 => by
  have hp := (show (l.isSome && risesB (l.getD []) && decide ((l.getD []).length ≤ 4294967296)) = true from hp)
  rw [Bool.and_eq_true, Bool.and_eq_true, decide_eq_true_eq] at hp
  cases l with
  | none => cases hp.1.1
  | some cuts =>
    obtain rfl := h1.int
    obtain ⟨b, off, A, c, hL, _⟩ := lay_in h0
    refine (shard_any w v hL hp.2 (rises_iff.1 hp.1.2)).mono ?_
    rintro e w' ⟨rfl, hb⟩
    exact ⟨hb, _, rfl, int_out _⟩)
theorem enters : Enters Tryd.prog 32 := enters_of (fn := Tryd.f32) (by kernel_rfl) (by kernel_rfl) (by kernel_rfl)
theorem okR : Enters Tryd.prog 32 ∧ Sound Tryd.prog rho 32 sig := ⟨enters, sound⟩
end Shard
namespace CloneI
abbrev ps : List PM := [.val (.list I64)]
abbrev rs : List PM := [.own 3 I64]
noncomputable def pre (a : List Int) : Bool := decide (a.length * 8 ≤ 140737488355328)
noncomputable def fn (a : List Int) : (List Int) × Unit := (a, ())
noncomputable def sig : Sig := ⟨ps, rs, fun d => match d with
  | (a, _) => pre a, fun d => match d with
  | (a, _) => fn a, false⟩
theorem sound : Sound Tryd.prog rho 58 sig := sound1o (fun x : Int => [Value.int .i64 x]) (fun _ _ _ => rfl) (fun a hp w U v hU h0 => by
  refine (Clone_any w (ints_in h0) (of_decide_eq_true hp)).mono ?_
  rintro e w' ⟨hb, u, rfl, hu⟩
  refine ⟨hb, u, rfl, ?_⟩
  rw [flat_one]
  exact hu)
theorem enters : Enters Tryd.prog 58 := enters_of (fn := Tryd.f58) (by kernel_rfl) (by kernel_rfl) (by kernel_rfl)
theorem okR : Enters Tryd.prog 58 ∧ Sound Tryd.prog rho 58 sig := ⟨enters, sound⟩
end CloneI
end Go.Proofs.YthbojpaghbbnnaaDoor.Z
namespace Go.Proofs.YthbojpaghbbnnaaDoor.Z
open Go Go.RowKit
set_option linter.unusedVariables false
set_option linter.unusedSimpArgs false
def laysG_ren : Go.Shelf.Ren := ⟨fun | 4 => 72 | n => n, fun | 25 => 3 | 22 => 22 | n => n, fun n => n⟩
theorem laysG : Go.Proofs.Lays8.n4 Tryd.prog laysG_ren := {
  mixed := by kernel_rfl
  f4 := ⟨"slices.Grow[[]int,int]", by decide, Tryd.func72.trans (congrArg some (by kernel_rfl))⟩
  t0 := Tryd.underlying0
  a0 := Tryd.isAgg0
  z0 := Tryd.sizeOf0
  v0 := Tryd.zeroValue0
  t3 := Tryd.underlying3
  a3 := Tryd.isAgg3
  z3 := Tryd.sizeOf3
  v3 := Tryd.zeroValue3
  t4 := Tryd.underlying4
  a4 := Tryd.isAgg4
  z4 := Tryd.sizeOf4
  v4 := Tryd.zeroValue4
  t9 := Tryd.underlying9
  a9 := Tryd.isAgg9
  z9 := Tryd.sizeOf9
  v9 := Tryd.zeroValue9
  t20 := Tryd.underlying20
  a20 := Tryd.isAgg20
  z20 := Tryd.sizeOf20
  v20 := Tryd.zeroValue20
  t22 := Tryd.underlying22
  a22 := Tryd.isAgg22
  z22 := Tryd.sizeOf22
  v22 := Tryd.zeroValue22 }
/-- Room for n numbers, in the row or in a new one. -/
theorem grow_any (w : World) {vC : Value} {l : Nat} {cs : List Value} (hC : w.ownsRow 0 3 1 vC l cs) {A : Option Addr} {c : Nat} (hv : vC = .slice A l c) {n : Nat} (hn : 0 < n) (hbig : n ≤ 1099511627777) :
    Calls Tryd.prog 72 #[.slice A 0 c, .int .i64 n] w fun e w' => ∃ g cap cur, e = .returned (.slice (some ⟨g, 0, none⟩) 0 cap) ∧ n ≤ cap ∧ cap ≤ maxLen ∧ w'.heap[g]? = some (.cells cur 3 (0, 0)) ∧ cur.size = cap ∧ Ag (fun _ => False) w w' ∧ (A = some ⟨g, 0, none⟩ ∨ w.heap.size ≤ g) := by
  have key : (A = none ∧ c = 0) ∨ ∃ g cur, A = some ⟨g, 0, none⟩ ∧ w.heap[g]? = some (.cells cur 3 (0, 0)) ∧ c ≤ maxLen ∧ cur.size = c := by
    rcases hC.2 with ⟨h1, h2⟩ | ⟨g, cap, cur, h1, hb, hg, hn', hc, hs, ht⟩
    · rw [hv] at h1
      injection h1 with h1 _ h3
      exact .inl ⟨h1, h3⟩
    · rw [hv] at h1
      injection h1 with h1 _ h3
      subst h3
      exact .inr ⟨g, cur, h1, hg, hc, by omega⟩
  by_cases hr : n ≤ c
  · rcases key with ⟨_, h0⟩ | ⟨g, cur, rfl, hg, hc, hs⟩
    · omega
    · refine (Any8.slices_Grow_room laysG (some ⟨g, 0, none⟩) 0 c n w (Nat.zero_le _) (by unfold maxLen at hc; omega) (by omega) (by omega)).mono ?_
      rintro e w' ⟨rfl, rfl⟩
      exact ⟨g, c, cur, rfl, hr, hc, hg, hs, Ag.refl _ _, .inl rfl⟩
  · have hcm : c ≤ maxLen := by rcases key with ⟨_, h0⟩ | ⟨_, _, _, _, h, _⟩ <;> omega
    have hcell : ∃ ds : List Value, ds.length = c ∧ ∀ a, A = some a → ∀ j v, ds[j]? = some v → w.cell? (a.add j) = some v := by
      rcases key with ⟨h0, h1⟩ | ⟨g, cur, rfl, hg, hc, hs⟩
      · exact ⟨[], by simp [h1], fun a ha => by rw [h0] at ha; cases ha⟩
      · refine ⟨cur.toList, by simpa using hs, fun a ha j v hj => ?_⟩
        cases ha
        have : (Addr.add ⟨g, 0, none⟩ j) = ⟨g, j, none⟩ := by cases j <;> simp [Addr.add]
        rw [this, cell_of hg]
        simpa using hj
    obtain ⟨ds, hd, hcs⟩ := hcell
    obtain ⟨i0, hi0, hz, hs, hby⟩ : ∃ i0, Tryd.prog.info? 3 = some i0 ∧ i0.zero = some (.int .i64 0) ∧ i0.size = 1 ∧ i0.bytes = 8 := by
      have := infoInt
      cases h : Tryd.prog.info? 3 with
      | none => rw [h] at this; cases this
      | some i =>
        rw [h] at this
        simp only [Option.map_some, Option.some.injEq, Prod.mk.injEq] at this
        exact ⟨i, rfl, this.1, this.2.1, this.2.2⟩
    refine (Any8.slices_Grow_grow laysG i0 (.int .i64 0) hi0 hz (by omega) A 0 c n ds w (Nat.zero_le _) (by omega) (by rw [hby]; omega) (by omega) (by rw [hs]; omega) (fun h => ?_) hcs).mono ?_
    · rcases key with ⟨_, h0⟩ | ⟨_, _, h1, _⟩
      · exact h0
      · rw [h] at h1; cases h1
    · rintro e w' ⟨rfl, rfl⟩
      have hge := grownCap_ge w (0 + n) c (laysG_ren.t 25)
      have hle := grownCap_le_maxLen w (0 + n) c (laysG_ren.t 25) (by unfold maxLen; omega)
      refine ⟨w.heap.size, _, _, rfl, by omega, hle, heap_alloc_new w.drew _, ?_, ⟨rfl, rfl, rfl, by simp, fun b hb _ => Below.heap_alloc w.drew _ b hb⟩, .inr (Nat.le_refl _)⟩
      have hc1 : (Value.int .i64 0).cells.size = 1 := rfl
      simp only [Nat.zero_add] at hge hle ⊢
      simp [Builtin.zeroCells, hc1]
      omega
abbrev vals := Hx.vals
/-- What h leaves: the counts in a row g, all else as it was. -/
structure HW (w w1 : World) (eb g cap : Nat) (vs : List Value) (cs : List Int) : Prop where
  ag : Ag (fun b => b = eb ∨ b = g) w w1
  box : w1.heap[eb]? = some (.cells (vs.set 8 (.slice (some ⟨g, 0, none⟩) cs.length cap)).toArray 93 (0, 0))
  own : OI w1 0 (.slice (some ⟨g, 0, none⟩) cs.length cap) cs
  ne : g ≠ eb
theorem HW.set {w w1 : World} {eb g cap : Nat} {vs : List Value} {cs : List Int} (h : HW w w1 eb g cap vs cs) {k : Nat} (hk : k < cs.length) (y : Int) : HW w (w1.setCell ⟨g, k, none⟩ (.int .i64 y)) eb g cap vs (cs.set k y) := by
  have hl : (cs.set k y).length = cs.length := List.length_set
  refine ⟨h.ag.trans ⟨by simp [World.setCell], by simp [World.setCell], by simp [World.setCell], by rw [size_setCell]; exact Nat.le_refl _, fun b _ hb => Below.heap_setCell w1 _ _ b (by simp only; omega)⟩, ?_, ?_, h.ne⟩
  · rw [hl, Below.heap_setCell w1 _ _ eb (by have := h.ne; simp only; omega)]
    exact h.box
  · rw [hl]
    exact h.own.set k hk y
theorem HW.drew {w w1 : World} {eb g cap : Nat} {vs : List Value} {cs : List Int} (h : HW w w1 eb g cap vs cs) : HW w w1.drew eb g cap vs cs := ⟨h.ag.trans (Ag.drew _ _), h.box, h.own, h.ne⟩
theorem HW.cell {w w1 : World} {eb g cap : Nat} {vs : List Value} {cs : List Int} (h : HW w w1 eb g cap vs cs) {i : Nat} {n : Int} (hn : cs[i]? = some n) : w1.cell? ⟨g, i, none⟩ = some (.int .i64 n) ∧ w1.frozen? ⟨g, i, none⟩ = false := by
  have hi := (List.getElem?_eq_some_iff.1 hn).1
  obtain ⟨g', x, e1, _, _, h1, h2, h3⟩ := h.own.get i hi
  injection e1 with e1
  injection e1 with e1
  subst e1
  have := h3.out
  rw [hn] at this
  injection this with this
  subst this
  exact ⟨h1, h2⟩
theorem HW.fld {w w1 : World} {eb g cap : Nat} {vs : List Value} {cs : List Int} (h : HW w w1 eb g cap vs cs) (h9 : vs.length = 9) (i : Nat) : w1.cell? ⟨eb, i, none⟩ = if i = 8 then some (.slice (some ⟨g, 0, none⟩) cs.length cap) else vs[i]? := by
  rw [cell_of h.box, List.getElem?_toArray, List.getElem?_set]
  by_cases e : i = 8
  · subst e
    simp [h9]
  · rw [if_neg (fun k => e k.symm), if_neg e]
theorem setc {g : Nat} {e : TypeId} : ∀ (vs : List Value) (o : Nat) (w : World) (cur : Array Value), w.heap[g]? = some (.cells cur e (0, 0)) → o + vs.length ≤ cur.size →
    ∃ cur', (w.setCells g o vs).heap[g]? = some (.cells cur' e (0, 0)) ∧ cur'.size = cur.size ∧ (∀ j, j < vs.length → cur'[o + j]? = vs[j]?) ∧ ∀ j, j < o → cur'[j]? = cur[j]?
  | [], o, w, cur, h, _ => ⟨cur, h, rfl, fun j hj => absurd hj (Nat.not_lt_zero _), fun _ _ => rfl⟩
  | v :: vs, o, w, cur, h, hl => by
    have h1 : (w.setCell ⟨g, o, none⟩ v).heap[g]? = some (.cells (cur.setIfInBounds o v) e (0, 0)) := by
      simp only [World.setCell]
      rw [Array.getElem?_modify]
      simp [h]
    simp only [List.length_cons] at hl
    obtain ⟨cur', h2, h3, h4, h5⟩ := setc vs (o + 1) _ _ h1 (by simp; omega)
    refine ⟨cur', h2, by simpa using h3, fun j hj => ?_, fun j hj => ?_⟩
    · cases j with
      | zero =>
        have := h5 o (by omega)
        rw [Nat.add_zero, this]
        simp [Array.getElem?_setIfInBounds]
        omega
      | succ j =>
        have := h4 j (by simpa using hj)
        rw [show o + (j + 1) = o + 1 + j by omega, this]
        rfl
    · rw [h5 j (by omega), Array.getElem?_setIfInBounds_ne (by omega)]
theorem ag_setc (g : Nat) : ∀ (vs : List Value) (o : Nat) (w : World), Ag (fun b => b = g) w (w.setCells g o vs)
  | [], _, w => Ag.refl _ w
  | v :: vs, o, w => (show Ag (fun b => b = g) w (w.setCell ⟨g, o, none⟩ v) from ⟨by simp [World.setCell], by simp [World.setCell], by simp [World.setCell], by rw [size_setCell]; exact Nat.le_refl _, fun b _ hb => Below.heap_setCell w _ _ b (by simp only; omega)⟩).trans (ag_setc g vs (o + 1) _)
theorem hw_start {w w1 : World} {eb g cap n : Nat} {vs : List Value} {cur : Array Value} (hag : Ag (fun _ => False) w w1) (hb : w1.heap[eb]? = some (.cells vs.toArray 93 (0, 0))) (h9 : vs.length = 9) (hg : w1.heap[g]? = some (.cells cur 3 (0, 0))) (hs : cur.size = cap) (hn : n ≤ cap) (hm : cap ≤ maxLen) (hne : g ≠ eb) :
    (∀ j, j < n → (((w1.setCell ⟨eb, 8, none⟩ (.slice (some ⟨g, 0, none⟩) n cap)).cell? ⟨g, 0 + j, none⟩).isSome = true)) ∧ (∀ j, j < n → (w1.setCell ⟨eb, 8, none⟩ (.slice (some ⟨g, 0, none⟩) n cap)).frozen? ⟨g, 0 + j, none⟩ = false) ∧
    HW w ((w1.setCell ⟨eb, 8, none⟩ (.slice (some ⟨g, 0, none⟩) n cap)).setCells g 0 (List.replicate n (.int .i64 0))) eb g cap vs (List.replicate n 0) := by
  have g2 : (w1.setCell ⟨eb, 8, none⟩ (.slice (some ⟨g, 0, none⟩) n cap)).heap[g]? = some (.cells cur 3 (0, 0)) := by
    rw [Below.heap_setCell w1 _ _ g (by simp only; omega)]
    exact hg
  have e2 : (w1.setCell ⟨eb, 8, none⟩ (.slice (some ⟨g, 0, none⟩) n cap)).heap[eb]? = some (.cells (vs.set 8 (.slice (some ⟨g, 0, none⟩) n cap)).toArray 93 (0, 0)) := by
    simp only [World.setCell]
    rw [Array.getElem?_modify]
    simp [hb]
  have hlt := (Array.getElem?_eq_some_iff.1 e2).1
  refine ⟨fun j hj => ?_, fun j hj => free_of g2 _, ?_⟩
  · rw [cell_of g2, Nat.zero_add, Array.getElem?_eq_getElem (by omega)]
    rfl
  · generalize hW : w1.setCell ⟨eb, 8, none⟩ (.slice (some ⟨g, 0, none⟩) n cap) = w2 at g2 e2 hlt ⊢
    have hag2 : Ag (fun b => b = eb) w w2 := by
      subst hW
      exact (hag.mono (fun _ _ h => h.elim)).trans ⟨by simp [World.setCell], by simp [World.setCell], by simp [World.setCell], by rw [size_setCell]; exact Nat.le_refl _, fun b _ hb => Below.heap_setCell w1 _ _ b (by simp only; omega)⟩
    obtain ⟨cur', h2, h3, h4, _⟩ := setc (List.replicate n (.int .i64 0)) 0 w2 cur g2 (by simp; omega)
    have hk := ag_setc g (List.replicate n (.int .i64 0)) 0 w2
    refine ⟨(hag2.mono (fun _ _ h => .inl h)).trans (hk.mono (fun _ _ h => .inr h)), ?_, ?_, hne⟩
    · rw [List.length_replicate, hk.block eb hlt (fun e => hne e.symm)]
      exact e2
    · refine ⟨by simp, .inr ⟨g, cap, cur', rfl, Nat.zero_le _, h2, by simpa using hn, hm, by omega, ?_⟩⟩
      refine List.ext_getElem? (fun j => ?_)
      rw [List.getElem?_take, List.map_replicate]
      by_cases hj : j < n
      · have := h4 j (by simpa using hj)
        rw [if_pos (by simpa using hj)]
        rw [Nat.zero_add] at this
        simpa using this
      · rw [if_neg (by simpa using hj), List.getElem?_eq_none (by simp; omega)]
set_option maxRecDepth 100000 in
set_option maxHeartbeats 8000000 in
theorem hE_any (w : World) {eb : Nat} {vs : List Value} {bb : Nat} {bl bc : Nat} {A : Option Addr} {cl c : Nat} {vT : Value} {bd cn ts : List Int} {v : Nat}
    (hbox : w.heap[eb]? = some (.cells vs.toArray 93 (0, 0))) (h9 : vs.length = 9) (h2 : vs[2]? = some (.slice (some ⟨bb, 0, none⟩) bl bc)) (h8 : vs[8]? = some (.slice A cl c))
    (hB : OI w 0 (.slice (some ⟨bb, 0, none⟩) bl bc) bd) (hC : OI w 0 (.slice A cl c) cn) (hBe : bb ≠ eb) (hCe : ∀ a, A = some a → a.block ≠ eb) (hBC : ∀ a, A = some a → a.block ≠ bb)
    {tA : Option Addr} {tc : Nat} (hvT : vT = .slice tA ts.length tc) (hT : 0 < ts.length → ∃ tb toff, tA = some ⟨tb, toff, none⟩ ∧ ∀ w', Ag (fun b => b = eb ∨ ∃ a, A = some a ∧ b = a.block) w w' → ∀ k, k < ts.length → w'.cell? ⟨tb, toff + k, none⟩ = (ts.map (Value.int .i64))[k]?)
    (hv : v < bd.length) (old : Nat) (hold : bd[v]? = some (old : Int)) (hsm : old ≤ 1099511627776) (hts : ∀ u ∈ ts, 0 ≤ u ∧ u < bd.length) (hb0 : ∀ x ∈ bd, 0 ≤ x) (hlen : ts.length ≤ 1099511627776) :
    Calls Tryd.prog 60 #[.pointer (some ⟨eb, 0, none⟩), .int .i64 v, vT] w fun e w' => ∃ g cap, e = .returned (.int .i64 (Hx.hOf (Hx.vals ts bd) old)) ∧ HW w w' eb g cap vs (bins old (Hx.vals ts bd)) ∧ (A = some ⟨g, 0, none⟩ ∨ w.heap.size ≤ g) := by
  subst hvT
  have f2 : w.cell? ⟨eb, 2, none⟩ = some (.slice (some ⟨bb, 0, none⟩) bl bc) := by rw [cell_of hbox]; simpa using h2
  have f8 : w.cell? ⟨eb, 8, none⟩ = some (.slice A cl c) := by rw [cell_of hbox]; simpa using h8
  obtain ⟨hbl, _⟩ : bl = bd.length ∧ True := by
    have := hB.form.2
    obtain ⟨_, _, e⟩ := this
    injection e with _ e _
    exact ⟨e, trivial⟩
  subst hbl
  have fv : w.cell? ⟨bb, v, none⟩ = some (.int .i64 (old : Int)) := by
    obtain ⟨g', x, e1, _, _, h1, _, h3⟩ := hB.get v hv
    injection e1 with e1
    injection e1 with e1
    subst e1
    have := h3.out
    rw [hold] at this
    injection this with this
    subst this
    exact h1
  have HBOX := Lib.hid hbox
  have HB := Lib.hid hB
  have HC := Lib.hid hC
  have HT := Lib.hid hT
  have HTS := Lib.hid hts
  have HB0 := Lib.hid hb0
  have HCE := Lib.hid hCe
  have HBC := Lib.hid hBC
  have HO := Lib.hid hold
  have hcl : cl = cn.length := by
    have := hC.form.2
    obtain ⟨_, _, e⟩ := this
    injection e
  subst hcl
  clear hbox hB hC hT hts hb0 hCe hBC hold
  obtain ⟨xs, hxs⟩ : ∃ xs, xs = Hx.vals ts bd := ⟨_, rfl⟩
  rw [← hxs]
  have HXS := Lib.hid hxs
  clear hxs
  go_enter Tryd.func60, Tryd.ntmps60
  go_upto_region 3 with (go_at_call 72; refine (grow_any w HC.out rfl (n := old + 1) (by omega) (by omega)).mono ?_; rintro e w1 ⟨g, cap, cur, rfl, hcap, hmax, hg, hs, hag, hor⟩; have hbx := (hag.block eb (Array.getElem?_eq_some_iff.1 HBOX.out).1 id).trans HBOX.out; have q8 : w1.cell? ⟨eb, 8, none⟩ = some (.slice A cn.length c) := (by rw [cell_of hbx]; simpa using h8); have z8 := free_of hbx 8; have HBX := Lib.hid hbx; have HG := Lib.hid hg; have HS := Lib.hid hs; have HAG := Lib.hid hag; have HOR := Lib.hid hor; clear hbx hg hs hag hor)
  have hne : g ≠ eb := by
    rcases HOR.out with h | h
    · exact HCE.out _ h
    · have := (Array.getElem?_eq_some_iff.1 HBOX.out).1
      omega
  obtain ⟨k1, k2, k3⟩ := hw_start (w := w) HAG.out HBX.out h9 HG.out HS.out hcap hmax hne
  have hcl := fun ty => Lib.run_clear_slice (P := Tryd.prog) (w1.setCell ⟨eb, 8, none⟩ (.slice (some ⟨g, 0, none⟩) (old + 1) cap)) 22 3 ty (.int .i64 0) Tryd.underlying22 Tryd.zeroValue3 rfl rfl g 0 (old + 1) cap (by omega) k1 k2
  have HCL := Lib.hid hcl
  have z0 := bins_nil old
  rw [← z0] at k3
  have HW0 := Lib.hid k3
  clear k1 k2 k3 hcl z0
  go_upto_region 4 with (simp only [HCL.out])
  have hxs := HXS.out
  have hxl : xs.length = ts.length := by rw [hxs]; simp [Hx.vals]
  have hxg : ∀ (k : Nat) (u : Int), ts[k]? = some u → xs[k]? = some (bd.getD u.toNat 0) := fun k u hu => by rw [hxs]; simp [Hx.vals, hu]
  have HXG := Lib.hid hxg
  have hres : ((lowOf (bins old xs) old : Nat) : Int) = Hx.hOf xs old := (lowOf_is old xs old (Nat.le_refl _)).uniq (Hx.hOf_is xs old)
  have HRES := Lib.hid hres
  have hagm : ∀ (wr : World) (cs : List Int), HW w wr eb g cap vs cs → Ag (fun b => b = eb ∨ ∃ a, A = some a ∧ b = a.block) w wr := fun _ _ h => h.ag.mono (fun b hb q => by
    rcases q with q | q
    · exact .inl q
    · rcases HOR.out with q2 | q2
      · exact .inr ⟨_, q2, q⟩
      · omega)
  have hbd : ∀ (wr : World) (cs : List Int), HW w wr eb g cap vs cs → OI wr 0 (.slice (some ⟨bb, 0, none⟩) bd.length bc) bd := fun _ _ h => own_of_block HB.out (fun b hb => by
    have hlt := (HB.out.lt (b := b) (by simpa [blk, Value.ownBlock] using hb)).2
    have hbb : bb = b := by simpa [blk] using hb
    refine h.ag.block b hlt (fun q => ?_)
    rcases q with q | q
    · omega
    · rcases HOR.out with q2 | q2
      · exact HBC.out _ q2 (by simp only; omega)
      · omega)
  have HAGM := Lib.hid hagm
  have HBD := Lib.hid hbd
  clear hxg hres hagm hbd hxs
  have hol := bins_len old xs
  go_wp2
  go_loopg [39] ts.length (fun gg s wr => ∃ k : Nat, gg + k = ts.length ∧ s = .int .i64 k ∧ Hid (HW w wr eb g cap vs (bins old (xs.take k))))
  case atStart => exact ⟨0, rfl, rfl, HW0⟩
  case round =>
    obtain ⟨k, hk, rfl, HI⟩ := hrel
    have HK := Lib.hid hk
    have e8 := HI.out.fld h9 8
    have e2 := HI.out.fld h9 2
    rw [if_pos rfl, bins_len] at e8
    rw [if_neg (by decide), h2] at e2
    by_cases hlt : k < ts.length
    · obtain ⟨u, hu⟩ : ∃ u, ts[k]? = some u := ⟨_, List.getElem?_eq_getElem hlt⟩
      obtain ⟨hu0, hu1⟩ := HTS.out u (List.mem_of_getElem? hu)
      obtain ⟨un, rfl⟩ := Int.eq_ofNat_of_zero_le hu0
      have hun : un < bd.length := by omega
      obtain ⟨x, hx⟩ : ∃ x, bd[un]? = some x := ⟨_, List.getElem?_eq_getElem hun⟩
      obtain ⟨xn, rfl⟩ := Int.eq_ofNat_of_zero_le (HB0.out x (List.mem_of_getElem? hx))
      obtain ⟨tb, toff, rfl, hcell⟩ := HT.out (by omega)
      have ct := hcell wr (HAGM.out _ _ HI.out) k hlt
      rw [List.getElem?_map, hu] at ct
      simp only [Option.map_some] at ct
      have cb : wr.cell? ⟨bb, un, none⟩ = some (.int .i64 (xn : Int)) := by
        obtain ⟨g', y, e1, _, _, h1, _, h3⟩ := (HBD.out _ _ HI.out).get un hun
        injection e1 with e1
        injection e1 with e1
        subst e1
        have := h3.out
        rw [hx] at this
        injection this with this
        subst this
        exact h1
      have hxk := HXG.out k _ hu
      rw [List.getD_eq_getElem?_getD, Int.toNat_natCast, hx] at hxk
      simp only [Option.getD_some] at hxk
      have ht : xs.take (k + 1) = xs.take k ++ [(xn : Int)] := by rw [List.take_add_one, hxk]; rfl
      have HTK := Lib.hid ht
      have hcl : clampN old (xn : Int) ≤ old := clampN_le old _
      obtain ⟨n, hn, hnl⟩ := bins_at old (xs.take k) (clampN old xn) hcl
      have hnl2 : n ≤ 1099511627776 := by rw [List.length_take] at hnl; omega
      have hcd : clampN old (xn : Int) = (min (xn : Int) (old : Int)).toNat := by unfold clampN; omega
      have hset := HI.out.drew.set (k := clampN old xn) (by rw [bins_len]; omega) ((n : Int) + 1)
      have hsn := bins_snoc old (xs.take k) (xn : Int)
      have hnn : ((xs.take k).countP (fun y => decide (clampN old y = clampN old xn)) : Nat) = n := by
        have := bins_get old (xs.take k) _ hcl
        rw [this] at hn
        injection hn with hn
        exact_mod_cast hn
      rw [hnn, ← ht] at hsn
      rw [← hsn] at hset
      obtain ⟨c1, f1⟩ := HI.out.cell hn
      rw [hcd] at c1 f1 hset
      have HSET := Lib.hid hset
      have hmn : (min (xn : Int) (old : Int)).toNat < old + 1 := by omega
      have hm0 : 0 ≤ min (xn : Int) (old : Int) := by omega
      have hm1 : min (xn : Int) (old : Int) < (old : Int) + 1 := by omega
      clear ht hn hnl hcd hset hsn hnn hcell hxk hx hu hu0 hu1 hk hcl
      go_upto_region 7 with (fail)
      refine region_T (by kernel_rfl) (fun w' => w'.cell? ⟨eb, 8, none⟩ = some (.slice (some ⟨g, 0, none⟩) (old + 1) cap) ∧ w'.cell? ⟨eb, 2, none⟩ = some (.slice (some ⟨bb, 0, none⟩) bd.length bc) ∧ w'.cell? ⟨bb, un, none⟩ = some (.int .i64 (xn : Int)) ∧ w'.cell? ⟨g, (min (xn : Int) (old : Int)).toNat, none⟩ = some (.int .i64 (n : Int))) 17 ⟨e8, e2, cb, c1⟩ (fun HS => ?_)
      change anyT _ _ _ _ _ _ 18 _ _ _
      refine takeT (i := 0) (v := ?_) rfl rfl (by kernel_rfl) (fun _ _ _ h => h) rfl ?_ HS ?_
      rotate_left
      · intro w' hS'
        obtain ⟨s0, s1, s2, s3⟩ := hS'
        go_simp
        rfl
      rotate_left
      go_frame
      refine takeT (i := 1) (v := ?_) rfl rfl (by kernel_rfl) (fun _ _ _ h => h) rfl ?_ HS ?_
      rotate_left
      · intro w' hS'
        obtain ⟨s0, s1, s2, s3⟩ := hS'
        go_simp
        rfl
      rotate_left
      go_frame
      refine takeT (i := 2) (v := ?_) rfl rfl (by kernel_rfl) (fun _ _ _ h => h) rfl ?_ HS ?_
      rotate_left
      · intro w' hS'
        obtain ⟨s0, s1, s2, s3⟩ := hS'
        go_simp
        rfl
      rotate_left
      go_frame
      refine takeT (i := 3) (v := ?_) rfl rfl (by kernel_rfl) (fun _ _ _ h => h) rfl ?_ HS ?_
      rotate_left
      · intro w' hS'
        obtain ⟨s0, s1, s2, s3⟩ := hS'
        go_simp
        rfl
      rotate_left
      go_frame
      refine takeT (i := 4) (v := ?_) rfl rfl (by kernel_rfl) (fun _ _ _ h => h) rfl ?_ HS ?_
      rotate_left
      · intro w' hS'
        obtain ⟨s0, s1, s2, s3⟩ := hS'
        go_simp
        rfl
      rotate_left
      go_frame
      refine takeT (i := 5) (v := ?_) rfl rfl (by kernel_rfl) (fun _ _ _ h => h) rfl ?_ HS ?_
      rotate_left
      · intro w' hS'
        obtain ⟨s0, s1, s2, s3⟩ := hS'
        go_simp
        rfl
      rotate_left
      go_frame
      refine takeT (i := 6) (v := ?_) rfl rfl (by kernel_rfl) (fun _ _ _ h => h) rfl ?_ HS ?_
      rotate_left
      · intro w' hS'
        obtain ⟨s0, s1, s2, s3⟩ := hS'
        go_simp
        rfl
      rotate_left
      go_frame
      refine takeT (i := 7) (v := ?_) rfl rfl (by kernel_rfl) (fun _ _ _ h => h) rfl ?_ HS ?_
      rotate_left
      · intro w' hS'
        obtain ⟨s0, s1, s2, s3⟩ := hS'
        go_simp
        rfl
      rotate_left
      go_frame
      refine takeT (i := 8) (v := ?_) rfl rfl (by kernel_rfl) (fun _ _ _ h => h) rfl ?_ HS ?_
      rotate_left
      · intro w' hS'
        obtain ⟨s0, s1, s2, s3⟩ := hS'
        go_simp
        rfl
      rotate_left
      go_frame
      refine takeT (i := 9) (v := ?_) rfl rfl (by kernel_rfl) (fun _ _ _ h => h) rfl ?_ HS ?_
      rotate_left
      · intro w' hS'
        obtain ⟨s0, s1, s2, s3⟩ := hS'
        go_simp
        rfl
      rotate_left
      go_frame
      refine takeT (i := 10) (v := ?_) rfl rfl (by kernel_rfl) (fun _ _ _ h => h) rfl ?_ HS ?_
      rotate_left
      · intro w' hS'
        obtain ⟨s0, s1, s2, s3⟩ := hS'
        go_simp
        rfl
      rotate_left
      go_frame
      refine takeT (i := 11) (v := ?_) rfl rfl (by kernel_rfl) (fun _ _ _ h => h) rfl ?_ HS ?_
      rotate_left
      · intro w' hS'
        obtain ⟨s0, s1, s2, s3⟩ := hS'
        go_simp
        rfl
      rotate_left
      go_frame
      refine takeT (i := 12) (v := ?_) rfl rfl (by kernel_rfl) (fun _ _ _ h => h) rfl ?_ HS ?_
      rotate_left
      · intro w' hS'
        obtain ⟨s0, s1, s2, s3⟩ := hS'
        go_simp
        rfl
      rotate_left
      go_frame
      refine takeT (i := 13) (v := ?_) rfl rfl (by kernel_rfl) (fun _ _ _ h => h) rfl ?_ HS ?_
      rotate_left
      · intro w' hS'
        obtain ⟨s0, s1, s2, s3⟩ := hS'
        go_simp
        rfl
      rotate_left
      go_frame
      refine takeT (i := 14) (v := ?_) rfl rfl (by kernel_rfl) (fun _ _ _ h => h) rfl ?_ HS ?_
      rotate_left
      · intro w' hS'
        obtain ⟨s0, s1, s2, s3⟩ := hS'
        go_simp
        rfl
      rotate_left
      go_frame
      refine takeT (i := 15) (v := ?_) rfl rfl (by kernel_rfl) (fun _ _ _ h => h) rfl ?_ HS ?_
      rotate_left
      · intro w' hS'
        obtain ⟨s0, s1, s2, s3⟩ := hS'
        go_simp
        rfl
      rotate_left
      go_frame
      refine takeT (i := 16) (v := ?_) rfl rfl (by kernel_rfl) (fun _ _ _ h => h) rfl ?_ HS ?_
      rotate_left
      · intro w' hS'
        obtain ⟨s0, s1, s2, s3⟩ := hS'
        go_simp
        rfl
      rotate_left
      go_frame
      refine oneT (i := 17) rfl (by kernel_rfl) (fun K hK => ?_)
      go_simp
      refine hK.out _ _ (fun h => absurd rfl h) ?_
      clear hK K
      refine doneT (by kernel_rfl) ?_ 0
      go_wp2
      go_roundg (ts.length - (k + 1))
      case measure => have := HK.out; omega
      case rel => exact ⟨k + 1, by have := HK.out; omega, by go_num, HSET⟩
    · have hke : xs.take k = xs := List.take_of_length_le (by omega)
      have hI := HI.out
      rw [hke] at hI
      have HJ := Lib.hid hI
      clear hke hI e8 e2
      have hbb := bins_bound old xs
      have hget : ∀ j, j ≤ old → ∃ y, (bins old xs)[j]? = some y ∧ 0 ≤ y ∧ y ≤ 1099511627776 := fun j hj => by
        have hl' : j < (bins old xs).length := by rw [bins_len]; omega
        have := hbb _ (List.getElem_mem hl')
        exact ⟨_, List.getElem?_eq_getElem hl', this.1, by omega⟩
      have hsb : ∀ j, 0 ≤ sfx (bins old xs) j ∧ sfx (bins old xs) j ≤ 1099511627776 := fun j => by
        rcases Nat.lt_or_ge j (old + 1) with q | q
        · rw [sfx_bins old xs (old + 1 - j) j (by omega)]
          have := List.countP_le_length (p := fun x => decide (j ≤ clampN old x)) (l := xs)
          omega
        · rw [sfx_out (by rw [bins_len]; omega)]
          omega
      have HG2 := Lib.hid hget
      have HS2 := Lib.hid hsb
      clear hbb hget hsb
      go_wp2
      obtain ⟨wo, rfl⟩ : ∃ wo : World, wo = wr := ⟨_, rfl⟩
      go_loopg [10, 11] old (fun gg n s wx => ∃ h : Nat, gg = h ∧ h ≤ old ∧ n = .int .i64 (sfx (bins old xs) (h + 1)) ∧ s = .int .i64 (h : Int) ∧ Hid (lowOf (bins old xs) old = lowOf (bins old xs) h) ∧ Hid (HW w wx eb g cap vs (bins old xs)))
      case atStart => exact ⟨old, rfl, Nat.le_refl _, by rw [sfx_out (by rw [bins_len]; omega)], rfl, rfl, HJ⟩
      case round =>
        obtain ⟨h, rfl, hh, rfl, rfl, HL, HJ'⟩ := hrel
        have e8 := HJ'.out.fld h9 8
        rw [if_pos rfl, bins_len] at e8
        by_cases h0 : gk = 0
        · subst h0
          go_wp2
          go_ret
          have hr := HRES.out
          rw [HL.out] at hr
          refine ⟨g, cap, ?_, HJ'.out, HOR.out⟩
          rw [← hr]
          rfl
        · obtain ⟨y, hy, hy0, hy1⟩ := HG2.out gk (by omega)
          have hst := sfx_step hy
          have s1 := HS2.out (gk + 1)
          have s2 := HS2.out gk
          have HST := Lib.hid hst
          have c1 := (HJ'.out.cell hy).1
          have hsum : sfx (bins old xs) (gk + 1) + y = sfx (bins old xs) gk := hst.symm
          have hpos : (0 : Int) < (gk : Int) := by omega
          clear hy hst
          by_cases hge : (gk : Int) ≤ sfx (bins old xs) (gk + 1) + y
          · go_wp2
            go_ret
            have hlow : lowOf (bins old xs) gk = gk := by
              obtain ⟨q, rfl⟩ : ∃ q, gk = q + 1 := ⟨gk - 1, by omega⟩
              unfold lowOf
              rw [if_pos (by omega)]
            have hr := HRES.out
            rw [HL.out, hlow] at hr
            refine ⟨g, cap, ?_, HJ'.out, HOR.out⟩
            rw [← hr]
            rfl
          · go_wp2
            go_roundg (gk - 1)
            case measure => omega
            case rel =>
              refine ⟨gk - 1, rfl, by omega, by rw [show gk - 1 + 1 = gk by omega, HST.out], by go_num, ?_, HJ'⟩
              have : lowOf (bins old xs) gk = lowOf (bins old xs) (gk - 1) := by
                obtain ⟨q, rfl⟩ : ∃ q, gk = q + 1 := ⟨gk - 1, by omega⟩
                show (if sfx (bins old xs) (q + 1) ≥ ((q + 1 : Nat) : Int) then q + 1 else lowOf (bins old xs) q) = lowOf (bins old xs) q
                rw [if_neg (by omega)]
              exact HL.out.trans this
namespace hE
abbrev fs : List Fd := [.v (.ptr Ly), .r 3 I64 false, .r 3 I64 false, .r 97 U64 false, .v I64, .v .bool, .v I64, .v I64, .r 3 I64 true]
abbrev ps : List PM := [.bx 93 [.v (.ptr Ly), .r 3 I64 false, .r 3 I64 false, .r 97 U64 false, .v I64, .v .bool, .v I64, .v I64, .r 3 I64 true], .val I64, .val (.list I64)]
abbrev rs : List PM := [.val I64]
noncomputable def preB (bd : List Int) (v : Int) (ts : List Int) : Bool := decide (0 ≤ v) && decide (v < bd.length) && bd.all (fun x => decide (0 ≤ x) && decide (x ≤ 1099511627776)) && ts.all (fun u => decide (0 ≤ u) && decide (u < bd.length)) && decide (ts.length ≤ 1099511627776)
noncomputable def pre (l : Option (List Int)) (dg bd : List Int) (dr : List Int) (p : Int) (u : Bool) (q c : Int) (k : List Int) (v : Int) (ts : List Int) : Bool := preB bd v ts
noncomputable def cnt (bd : List Int) (v : Int) (ts : List Int) : List Int := bins (bd.getD v.toNat 0).toNat (Hx.vals ts bd)
noncomputable def res (bd : List Int) (v : Int) (ts : List Int) : Int := Hx.hOf (Hx.vals ts bd) (bd.getD v.toNat 0)
noncomputable def fn (l : Option (List Int)) (dg bd : List Int) (dr : List Int) (p : Int) (u : Bool) (q c : Int) (k : List Int) (v : Int) (ts : List Int) : (Option (List Int) × List Int × List Int × List Int × Int × Bool × Int × Int × List Int × Bool) × Int × Unit := ((l, dg, bd, dr, p, u, q, c, cnt bd v ts, false), res bd v ts, ())
noncomputable def sig : Sig := ⟨ps, rs, fun d => match d with
  | ((l, dg, bd, dr, p, u, q, c, k, _), v, ts, _) => pre l dg bd dr p u q c k v ts, fun d => match d with
  | ((l, dg, bd, dr, p, u, q, c, k, _), v, ts, _) => fn l dg bd dr p u q c k v ts, false⟩
theorem sound : Sound Tryd.prog rho 60 sig := by
  intro d hp w U0 U1 hd0 vs' hu hu1 hfr hap hK ha
  obtain ⟨⟨l, dg, bdx, dr, p, u, q, c, kx, dm⟩, vx, tsx, un⟩ := d
  obtain ⟨ts, e⟩ : ∃ x : List Int, x = tsx := ⟨tsx, rfl⟩
  subst e
  obtain ⟨bd, e⟩ : ∃ x : List Int, x = bdx := ⟨bdx, rfl⟩
  subst e
  obtain ⟨k, e⟩ : ∃ x : List Int, x = kx := ⟨kx, rfl⟩
  subst e
  obtain ⟨v, e⟩ : ∃ x : Int, x = vx := ⟨vx, rfl⟩
  subst e
  have hp : preB bd v ts = true := hp
  unfold preB at hp
  simp only [Bool.and_eq_true, decide_eq_true_eq, List.all_eq_true] at hp
  obtain ⟨⟨⟨⟨hv0, hv1⟩, hb⟩, ht0⟩, hl⟩ := hp
  match vs', ha with
  | [v0, v1, v2], ⟨e0, ⟨hc, hr⟩, a1, a2, _⟩ =>
  have hfr := hfr rfl
  obtain rfl := a1.int
  obtain ⟨eb, vs, ee, _, hbox, h9, hcells⟩ := hc
  have h9 : vs.length = 9 := h9
  have hRd := hr 0 (by decide)
  have hRb := hr 1 (by decide)
  have hRr := hr 2 (by decide)
  have hRc := hr 3 (by decide)
  obtain ⟨x2, g2, _, r2⟩ := hcells 2 (show 2 < 9 by decide)
  obtain ⟨x8, g8, _, r8⟩ := hcells 8 (show 8 < 9 by decide)
  have r2 : x2 = hd0 2 := r2
  have r8 : x8 = hd0 4 := r8
  subst r2 r8
  obtain ⟨csb, ob, eb'⟩ := (show ∃ cs, w.ownsRow 0 3 1 (hd0 2) bd.length cs ∧ Els (ICs rho _ w I64) cs bd from hRb)
  obtain ⟨csc, oc, ec'⟩ := (show ∃ cs, w.ownsRow 0 3 1 (hd0 4) k.length cs ∧ Els (ICs rho _ w I64) cs k from hRc)
  have eb2 : csb = bd.map (Value.int .i64) := by rw [els_flat (enc := fun x : Int => [Value.int .i64 x]) (fun _ _ h => h) eb', flat_one]
  have ec2 : csc = k.map (Value.int .i64) := by rw [els_flat (enc := fun x : Int => [Value.int .i64 x]) (fun _ _ h => h) ec', flat_one]
  subst eb2 ec2
  have hblk : ∀ i, i < 5 → ∀ b, blk (hd0 i) = some b → b < w.heap.size := fun i hi b hb => by
    match i, hi with
    | 0, _ => rw [ee] at hb; have : eb = b := by simpa [blk] using hb
              subst this; exact (Array.getElem?_eq_some_iff.1 hbox).1
    | 1, _ => exact (hRd.blk_ge hb).2
    | 2, _ => exact (hRb.blk_ge hb).2
    | 3, _ => exact (hRr.blk_ge hb).2
    | 4, _ => exact (hRc.blk_ge hb).2
  obtain ⟨bb, bc, hbv⟩ : ∃ bb bc, hd0 2 = .slice (some ⟨bb, 0, none⟩) bd.length bc := by
    rcases ob.2 with ⟨_, h0⟩ | ⟨g, cap, cur, h1, _⟩
    · omega
    · exact ⟨g, cap, h1⟩
  obtain ⟨A, cc, hcv⟩ : ∃ A cc, hd0 4 = .slice A k.length cc := (show OI w 0 (hd0 4) k from oc).form.2
  obtain ⟨cs0, e2, A2, c2, es, e3, h3, h4, h5, h6⟩ := (show ∃ cs, v2 = pack (.list I64) cs ∧ ICs rho _ w (.list I64) cs ts from a2)
  subst e3 e2
  have e : es = ts.map (Value.int .i64) := (els_flat (enc := fun x : Int => [Value.int .i64 x]) (fun _ _ h => h) h5).trans (flat_one (fun x : Int => Value.int .i64 x) ts)
  subst e
  obtain ⟨vn, rfl⟩ := Int.eq_ofNat_of_zero_le hv0
  have hvn : vn < bd.length := by omega
  have hbm := hb _ (List.getElem_mem hvn)
  obtain ⟨old, hold⟩ := Int.eq_ofNat_of_zero_le hbm.1
  have hod : bd[vn]? = some (old : Int) := by rw [List.getElem?_eq_getElem hvn, hold]
  have hod2 : bd.getD ((vn : Int)).toNat 0 = (old : Int) := by rw [Int.toNat_natCast, List.getD_eq_getElem?_getD, hod]; rfl
  have n02 : bb ≠ eb := fun h => hap 2 0 (show 2 < 5 by decide) (show 0 < 5 by decide) (by decide) bb (by rw [hbv]; rfl) (by rw [ee, h]; rfl)
  have hU : ∀ b, b < w.heap.size → (b = eb ∨ ∃ a, A = some a ∧ b = a.block) → Us U0 5 hd0 b := fun b _ hb => by
    rcases hb with rfl | ⟨a, ha, rfl⟩
    · exact .inr ⟨0, by decide, by rw [ee]; rfl⟩
    · exact .inr ⟨4, by decide, by rw [hcv, ha]; rfl⟩
  have e0 : v0 = hd0 0 := e0
  rw [e0, ee]
  change Calls Tryd.prog 60 #[.pointer (some ⟨eb, 0, none⟩), .int .i64 (vn : Int), pack (.list I64) [.slice A2 ts.length c2]] w _
  refine (hE_any w hbox h9 (hbv ▸ g2) (hcv ▸ g8) (hbv ▸ ob) (hcv ▸ oc) n02 (fun a ha => ?_) (fun a ha => ?_) (vT := pack (.list I64) [.slice A2 ts.length c2]) (tA := A2) (tc := c2) (ts := ts) rfl (fun hp => ?_) hvn old hod (by omega) ht0 (fun x hx => (hb x hx).1) hl).mono ?_
  · exact fun h => hap 4 0 (show 4 < 5 by decide) (show 0 < 5 by decide) (by decide) a.block (by rw [hcv, ha]; rfl) (by rw [ee, h]; rfl)
  · exact fun h => hap 4 2 (show 4 < 5 by decide) (show 2 < 5 by decide) (by decide) a.block (by rw [hcv, ha]; rfl) (by rw [hbv, h]; rfl)
  · obtain ⟨ab, ao, e1, h9'⟩ := h6 hp
    exact ⟨ab, ao, e1, fun w' hw' j hj => h9' w' (hw'.mono hU) j (Nat.lt_of_lt_of_eq hj (List.length_map ..).symm)⟩
  · rintro e w' ⟨g, cap, rfl, hW, hor⟩
    have hgl : ∀ b, b < w.heap.size → b = g → blk (hd0 4) = some b := fun b hb hbg => by
      rcases hor with h | h
      · rw [hcv, h, hbg]; rfl
      · omega
    have hlen : (bins old (Hx.vals ts bd)).length = old + 1 := bins_len _ _
    refine ⟨[_], upd hd0 4 (.slice (some ⟨g, 0, none⟩) (bins old (Hx.vals ts bd)).length cap), rfl, hW.ag.mono (fun b hb q => ?_), fun i hi hf => ?_, fun i hi b hb' => ?_, ?_, ?_, ?_⟩
    · rcases q with q | q
      · exact .inr ⟨0, show 0 < 5 by decide, by rw [ee, q]; rfl⟩
      · exact .inr ⟨4, show 4 < 5 by decide, hgl b hb q⟩
    · refine upd_ne (fun h => ?_)
      subst h
      cases hf
    · by_cases h4 : i = 4
      · subst h4
        rw [upd_same] at hb'
        have : g = b := by simpa [blk] using hb'
        by_cases hlt : b < w.heap.size
        · exact .inl (hgl b hlt this.symm)
        · exact .inr (by omega)
      · rw [upd_ne h4] at hb'
        exact .inl hb'
    · intro i j hi hj hij b hbi hbj
      have hi : i < 5 := hi
      have hj : j < 5 := hj
      by_cases h4 : i = 4
      · subst h4
        rw [upd_same] at hbi
        rw [upd_ne (fun h => hij h.symm)] at hbj
        have : g = b := by simpa [blk] using hbi
        have hlt := hblk j hj b hbj
        exact hap 4 j (show 4 < 5 by decide) hj hij b (hgl b hlt this.symm) hbj
      · rw [upd_ne h4] at hbi
        by_cases h4' : j = 4
        · subst h4'
          rw [upd_same] at hbj
          have : g = b := by simpa [blk] using hbj
          have hlt := hblk i hi b hbi
          exact hap i 4 hi (show 4 < 5 by decide) hij b hbi (hgl b hlt this.symm)
        · rw [upd_ne h4'] at hbj
          exact hap i j hi hj hij b hbi hbj
    · have ht : Tr (Us U0 5 hd0) w (Us U1 5 (upd hd0 4 (.slice (some ⟨g, 0, none⟩) (bins old (Hx.vals ts bd)).length cap))) w' := Tr.of hW.ag (fun b hb q => by
        rcases q with q | q
        · exact .inr ⟨0, by decide, by rw [ee, q]; rfl⟩
        · exact .inr ⟨4, by decide, hgl b hb q⟩) (fun b hb q => by
        rcases q with q | ⟨i, hi, q⟩
        · exact .inl (hfr b q)
        · by_cases h4 : i = 4
          · subst h4
            rw [upd_same] at q
            have : g = b := by simpa [blk] using q
            exact .inr ⟨4, by decide, hgl b hb this.symm⟩
          · rw [upd_ne h4] at q
            exact .inr ⟨i, hi, q⟩)
      have hkeep : ∀ i, i < 5 → i ≠ 0 → i ≠ 4 → ∀ b, blk (hd0 i) = some b → w'.heap[b]? = w.heap[b]? ∧ 0 ≤ b := fun i hi h0 h4 b hb' => ⟨hW.ag.block b (hblk i hi b hb') (fun q => by
        rcases q with q | q
        · exact hap i 0 hi (show 0 < 5 by decide) h0 b hb' (by rw [ee, q]; rfl)
        · exact hap i 4 hi (show 4 < 5 by decide) h4 b hb' (hgl b (hblk i hi b hb') q)), Nat.zero_le _⟩
      have hod3 : cnt bd vn ts = bins old (Hx.vals ts bd) := by unfold cnt; rw [hod2]; rfl
      show MutsOk rho (Us U1 5 (upd hd0 4 (.slice (some ⟨g, 0, none⟩) (bins old (Hx.vals ts bd)).length cap))) w' (upd hd0 4 (.slice (some ⟨g, 0, none⟩) (bins old (Hx.vals ts bd)).length cap)) ps ((l, dg, bd, dr, p, u, q, c, cnt bd vn ts, false), ()) 0
      rw [hod3]
      refine ⟨⟨⟨eb, vs.set 8 (.slice (some ⟨g, 0, none⟩) (bins old (Hx.vals ts bd)).length cap), (upd_ne (by decide)).trans ee, Nat.zero_le _, hW.box, ?_, fun i hi => ?_⟩, fun i hi => ?_⟩, trivial⟩
      · rw [List.length_set]; exact h9
      · have hi : i < 9 := hi
        by_cases h8 : i = 8
        · subst h8
          exact ⟨_, by rw [List.getElem?_set_self (by omega)], rfl, (upd_same _ _ _).symm⟩
        · obtain ⟨x, s1, s2, s3⟩ := hcells i hi
          refine ⟨x, by rw [List.getElem?_set_ne (fun h => h8 h.symm)]; exact s1, s2, RA.tr (x := atn .un (fsA fs (l, dg, bd, dr, p, u, q, c, k, dm) 1) i) ht (fun j hj => upd_ne (fun h => ?_)) s3⟩
          subst h
          match i, hi with
          | 0, _ => cases hj
          | 1, _ => exact absurd (show 4 ∈ [1] from hj) (by decide)
          | 2, _ => exact absurd (show 4 ∈ [2] from hj) (by decide)
          | 3, _ => exact absurd (show 4 ∈ [3] from hj) (by decide)
          | 4, _ => cases hj
          | 5, _ => cases hj
          | 6, _ => cases hj
          | 7, _ => cases hj
          | 8, _ => exact h8 rfl
      · have hi : i < 4 := hi
        match i, hi with
        | 0, _ =>
          have := ro_row (hd' := upd hd0 4 (.slice (some ⟨g, 0, none⟩) (bins old (Hx.vals ts bd)).length cap)) hRd (hkeep 1 (by decide) (by decide) (by decide)) (.inl ht)
          rw [← upd_ne (f := hd0) (n := 4) (v := .slice (some ⟨g, 0, none⟩) (bins old (Hx.vals ts bd)).length cap) (show 1 ≠ 4 by decide)] at this
          exact this
        | 1, _ =>
          have := ro_row (hd' := upd hd0 4 (.slice (some ⟨g, 0, none⟩) (bins old (Hx.vals ts bd)).length cap)) hRb (hkeep 2 (by decide) (by decide) (by decide)) (.inl ht)
          rw [← upd_ne (f := hd0) (n := 4) (v := .slice (some ⟨g, 0, none⟩) (bins old (Hx.vals ts bd)).length cap) (show 2 ≠ 4 by decide)] at this
          exact this
        | 2, _ =>
          have := ro_row (hd' := upd hd0 4 (.slice (some ⟨g, 0, none⟩) (bins old (Hx.vals ts bd)).length cap)) hRr (hkeep 3 (by decide) (by decide) (by decide)) (.inl ht)
          rw [← upd_ne (f := hd0) (n := 4) (v := .slice (some ⟨g, 0, none⟩) (bins old (Hx.vals ts bd)).length cap) (show 3 ≠ 4 by decide)] at this
          exact this
        | 3, _ =>
          show RO rho _ w' _ 0 (.row 3 I64 (bins old (Hx.vals ts bd))) (upd hd0 4 _ 4)
          rw [upd_same]
          refine ⟨_, hW.own, ?_⟩
          have := flat_els (Q := ICs rho (Us U1 5 (upd hd0 4 (.slice (some ⟨g, 0, none⟩) (bins old (Hx.vals ts bd)).length cap))) w' I64) (enc := fun x : Int => [Value.int .i64 x]) (fun _ => rfl) (bins old (Hx.vals ts bd))
          rw [flat_one] at this
          exact this
    · exact ⟨⟨[.int .i64 (res bd vn ts)], by unfold res; rw [hod2]; rfl, rfl⟩, trivial⟩
theorem enters : Enters Tryd.prog 60 := enters_of (fn := Tryd.f60) (by kernel_rfl) (by kernel_rfl) (by kernel_rfl)
theorem okR : Enters Tryd.prog 60 ∧ Sound Tryd.prog rho 60 sig := ⟨enters, sound⟩
end hE
end Go.Proofs.YthbojpaghbbnnaaDoor.Z
