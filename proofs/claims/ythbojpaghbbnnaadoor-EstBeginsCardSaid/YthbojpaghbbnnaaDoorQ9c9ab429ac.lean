/- A part of a claim: what its statement needs. No condition. -/
import Derived.Test.YthbojpaghbbnnaaDoorQ4d9660e48d
import Derived.Test.YthbojpaghbbnnaaDoorShelf
import Derived.Sort.OwnSortedInts
import Derived.Test.YthbojpaghbbnnaaDoorRows
import Derived.LaidMore
import Derived.ProofKit
import Derived.OpenShut
import Derived.Stop.Joined
import Derived.ShutString
import Derived.ChangeOld
import Derived.Below
import Derived.SizedLaws
import Derived.Deep.Slices
import Derived.ChangeSame
import Derived.Shelf.Spec.SlicesGrow
namespace Go.Proofs.YthbojpaghbbnnaaDoor
open Go.RowKit Go.Sort
set_option linter.unusedVariables false
def srt (xs : List Int) : List Int := xs.mergeSort fun x y => decide (x ≤ y)
theorem Sort_own (w : World) {base n : Nat} {v : Value} {xs : List Int} (h : w.ownsRow base 3 1 v n (xs.map (Value.int .i64))) (hb : xs.length < 4611686018427387904) :
    Calls Tryd.prog 75 #[v] w fun e w' => e = .returned (.tuple #[]) ∧ w'.ownsRow base 3 1 v n ((srt xs).map (Value.int .i64)) ∧ w.grownBy w' v.ownBlock := by
  have hn : n = xs.length := by have := h.1; simp at this; exact this.symm
  subst hn
  rcases h.2 with ⟨rfl, h0⟩ | ⟨g, cap, cur, rfl, hbase, hh, h1, h2, h3, h4⟩
  · have hx : xs = [] := List.eq_nil_of_length_eq_zero h0
    subst hx
    refine (Tryd.slices_Sort_int_none none 0 w).mono ?_
    rintro e w' ⟨rfl, rfl⟩
    exact ⟨rfl, by simpa [srt] using h, World.grownBy.refl _ _⟩
  · refine (Tryd.slices_Sort_int g 0 cap xs w (holds_of_blockI hh (by simpa using h4)) (Array.getElem?_eq_some_iff.1 hh).1 hb).mono ?_
    rintro e w' ⟨rfl, m, os, rfl⟩
    exact ⟨rfl, ownsRow_sortedI (by simp) hbase hh h1 h2 h3, grownBy_sortedI _⟩
theorem Clone_any (w : World) {lo hi : Nat} {v : Value} {xs : List Int} (h : Ints w lo hi v xs) (hb : xs.length * 8 ≤ 140737488355328) :
    Calls Tryd.prog 58 #[v] w fun e w' => Below w.heap.size w w' ∧ ∃ v', e = .returned v' ∧ w'.ownsRow w.heap.size 3 1 v' xs.length (xs.map (Value.int .i64)) := by
  obtain ⟨hl, A, c, rfl⟩ := h.form
  rcases Nat.eq_zero_or_pos xs.length with h0 | h0
  · have hx : xs = [] := List.eq_nil_of_length_eq_zero h0
    subst hx
    cases A with
    | none =>
      refine (Tryd.slices_Clone_int_nil 0 c w).mono ?_
      rintro e w' ⟨rfl, rfl⟩
      exact ⟨Below.refl _ _, _, rfl, World.ownsRow_nil _ _ _ _⟩
    | some a =>
      refine (Tryd.slices_Clone_int_zero a c w).mono ?_
      rintro e w' ⟨v', rfl, h1, _, h2⟩
      exact ⟨h2, v', rfl, h1⟩
  · obtain ⟨b, off, rfl, _, _, hc⟩ := h.all h0
    refine (Tryd.slices_Clone_int b off xs.length c xs w (Nat.le_refl _) hb (fun j hj => ?_)).mono ?_
    · rw [hc j hj, List.getD_eq_getElem?_getD, List.getElem?_eq_getElem hj]; rfl
    · rintro e w' ⟨v', rfl, h1, _, h2⟩
      rw [List.take_length] at h1
      exact ⟨h2, v', rfl, h1⟩
/-- Sorted, and of the same numbers: the same list. -/
theorem srt_eq {xs : List Int} {ys : List Nat} (h1 : xs.Nodup) (h2 : ys.Pairwise (· < ·)) (h : ∀ x, x ∈ xs ↔ ∃ y ∈ ys, x = (y : Int)) : srt xs = up ys := by
  have p1 : (srt xs).Perm xs := List.mergeSort_perm _ _
  have hn : (up ys).Nodup := nodup_map (fun a b e => by omega) (List.Pairwise.imp (fun h => Nat.ne_of_lt h) h2)
  have p2 : xs.Perm (up ys) := perm_of_mem h1 hn (fun x => by rw [h, up, List.mem_map]; exact ⟨fun ⟨y, hy, e⟩ => ⟨y, hy, e.symm⟩, fun ⟨y, hy, e⟩ => ⟨y, hy, e.symm⟩⟩)
  have s1 : (srt xs).Pairwise (fun a b => decide (a ≤ b) = true) := List.pairwise_mergeSort (by intro a b c; simp; omega) (by intro a b; simp; omega) xs
  have s2 : (up ys).Pairwise (fun a b => decide (a ≤ b) = true) := by
    unfold up
    rw [List.pairwise_map]
    exact h2.imp (fun h => by simp; omega)
  exact (p1.trans p2).eq_of_pairwise (fun a b _ _ h1 h2 => by simp at h1 h2; omega) s1 s2
end Go.Proofs.YthbojpaghbbnnaaDoor
namespace Go.Proofs.YthbojpaghbbnnaaDoor
open Go.RowKit Go.WideMaps Go.Maps
set_option linter.unusedVariables false
set_option linter.unusedSimpArgs false
/-- The graph of n vertices whose edges are told by E. -/
def Gr.ofE (n : Nat) (E : List (Int × Int)) : Gr := ⟨n, fun u v => decide ((((min u v : Nat) : Int), ((max u v : Nat) : Int)) ∈ E)⟩
def Edgy (n : Nat) (E : List (Int × Int)) : Prop := ∀ p ∈ E, 0 ≤ p.1 ∧ p.1 < p.2 ∧ p.2 < n
theorem ofE_ok {n : Nat} {E : List (Int × Int)} (hr : Edgy n E) (hn : n ≤ 16777216) : (Gr.ofE n E).Ok where
  symm u v := by simp only [Gr.ofE, Nat.min_comm u v, Nat.max_comm u v]
  irr u := by
    simp only [Gr.ofE, decide_eq_false_iff_not]
    intro h
    have := hr _ h
    simp only at this
    omega
  rng u v h := by
    simp only [Gr.ofE, decide_eq_true_eq] at h
    have := hr _ h
    simp only [Gr.ofE] at this ⊢
    omega
  small := hn
theorem ofE_tells {n : Nat} {E : List (Int × Int)} (hr : Edgy n E) (hd : E.Nodup) : Tells E (Gr.ofE n E) := by
  refine ⟨hd, fun a b => ⟨fun h => ?_, ?_⟩⟩
  · have := hr _ h
    simp only at this
    refine ⟨a.toNat, b.toNat, by omega, by omega, by omega, ?_⟩
    simp only [Gr.ofE, decide_eq_true_eq]
    rw [show ((min a.toNat b.toNat : Nat) : Int) = a from by omega, show ((max a.toNat b.toNat : Nat) : Int) = b from by omega]
    exact h
  · rintro ⟨u, v, rfl, rfl, hl, hk⟩
    simp only [Gr.ofE, decide_eq_true_eq] at hk
    rwa [show min u v = u from by omega, show max u v = v from by omega] at hk
theorem filled_nb {n : Nat} {E : List (Int × Int)} {T : Nat → List Int} (hr : Edgy n E) (hn : n ≤ 16777216) (h : Filled E [] n T) {i : Nat} (hi : i < n) : srt (T i) = up ((Gr.ofE n E).nb i) := by
  refine srt_eq (h i hi).1 (Gr.nb_sorted _ _) (fun x => ?_)
  rw [(h i hi).2]
  simp only [List.not_mem_nil, not_false_eq_true, and_true]
  have hG := ofE_ok hr hn
  have ht : ∀ a b : Int, (a, b) ∈ E → 0 ≤ a ∧ a < b ∧ b < n := fun a b h => hr _ h
  constructor
  · rintro (k | k)
    · have := ht _ _ k
      refine ⟨x.toNat, (Gr.mem_nb hG).2 ?_, by omega⟩
      simp only [Gr.ofE, decide_eq_true_eq]
      rw [show ((min i x.toNat : Nat) : Int) = i from by omega, show ((max i x.toNat : Nat) : Int) = x from by omega]
      exact k
    · have := ht _ _ k
      refine ⟨x.toNat, (Gr.mem_nb hG).2 ?_, by omega⟩
      simp only [Gr.ofE, decide_eq_true_eq]
      rw [show ((min i x.toNat : Nat) : Int) = x from by omega, show ((max i x.toNat : Nat) : Int) = i from by omega]
      exact k
  · rintro ⟨y, hy, rfl⟩
    have := (Gr.mem_nb hG).1 hy
    simp only [Gr.ofE, decide_eq_true_eq] at this
    have h2 := ht _ _ this
    rcases Nat.lt_trichotomy i y with h3 | h3 | h3
    · left
      rwa [show min i y = i from by omega, show max i y = y from by omega] at this
    · omega
    · right
      rwa [show min i y = y from by omega, show max i y = i from by omega] at this
theorem RowsAt.sorted {w w' : World} {base tb n i : Nat} {T : Nat → List Int} {vs : List Value} {x : Value} (h : RowsAt w base tb n T vs)
    (hx : vs[i]? = some x) (htb : tb < base) (hg : w.grownBy w' x.ownBlock) (hown : w'.ownsRow base 3 1 x (T i).length ((srt (T i)).map (Value.int .i64))) (hi : i < n) :
    RowsAt w' base tb n (fun k => if k = i then srt (T i) else T k) vs := by
  obtain ⟨h1, h2, h3, h4⟩ := h
  obtain ⟨x', e, hxo⟩ := h3 i hi
  rw [hx] at e
  cases e
  refine ⟨h1, (hg.block tb (Array.getElem?_eq_some_iff.1 h2).1 (fun e => by have := hxo.lt tb e.symm; omega)).trans h2, fun k hk => ?_, h4⟩
  by_cases hki : k = i
  · subst hki
    refine ⟨x, hx, ?_⟩
    simp only [if_true]
    have : (srt (T k)).length = (T k).length := by simp [srt]
    rw [this]
    exact hown
  · obtain ⟨z, hz, hzo⟩ := h3 k hk
    refine ⟨z, hz, ?_⟩
    simp only [if_neg hki]
    exact hzo.kept hg (h4 k i z x hki hz hx)
/-- The loop over the map. -/
structure OfInv (w : World) (n m gb tb r base : Nat) (E : List (Int × Int)) (wr : World) (L : List (Int × Int)) (T : Nat → List Int) : Prop where
  bel : Below w.heap.size w wr
  rng : Rng wr m r L
  gbk : wr.heap[gb]? = some (.cells #[.int .i64 (n : Int), .map (some m), .slice (some ⟨tb, 0, none⟩) n n] 102 (0, 0))
  sub : ∀ p ∈ L, p ∈ E
  le : base ≤ wr.heap.size
  rows : OwnRows wr base tb n T
  fill : Filled E L n T
theorem rows_start {w1 : World} {b base n : Nat} (hb : b < base) (h : w1.ownsRow b 22 1 (.slice (some ⟨b, 0, none⟩) n n) n (List.replicate n (.slice none 0 0))) : OwnRows w1 base b n (fun _ => []) := by
  rcases h.2 with ⟨h', _⟩ | ⟨g, cap, cur, h', _, hh, h1, h2, h3, h4⟩
  · cases h'
  · injection h' with e1 e2 e3
    injection e1 with e1
    injection e1 with e1
    subst e1
    subst e3
    refine ⟨List.replicate n (.slice none 0 0), by simp, ?_, fun i hi => ⟨.slice none 0 0, by simp [List.getElem?_replicate, hi], World.ownsRow_nil _ _ _ _⟩, fun i j x y _ hx _ => ?_⟩
    · rw [hh]
      have : cur.toList = List.replicate n (.slice none 0 0) := by rw [← h4, List.take_of_length_le (by simp [h3])]
      rw [← this]
    · left
      have := List.mem_of_getElem? hx
      rw [List.eq_of_mem_replicate this]
      rfl
end Go.Proofs.YthbojpaghbbnnaaDoor
namespace Go.Proofs.YthbojpaghbbnnaaDoor
open Go.RowKit Go.WideMaps Go.Maps
set_option linter.unusedVariables false
set_option linter.unusedSimpArgs false
set_option maxRecDepth 100000 in
set_option maxHeartbeats 4000000 in
theorem of_any (w : World) (n : Nat) (hn : n ≤ 16777216) (m lo : Nat) (E : List (Int × Int)) (hE : EMap w m E) (hr : Edgy n E) (hlo : lo ≤ m) :
    Calls Tryd.prog 70 #[.int .i64 (n : Int), .map (some m)] w fun e w' => Below w.heap.size w w' ∧ ∃ v, e = .returned v ∧ PG w' lo w'.heap.size v (Gr.ofE n E) := by
  have HE := Lib.hid hE
  have HR := Lib.hid hr
  clear hE hr
  have hm := HE.out.lt
  obtain ⟨i0, hi, hz0, hz1, hz2⟩ := info_parts infoInt
  have HI : Hid (Tryd.prog.info? 3 = some i0 ∧ i0.zero = some (.int .i64 0) ∧ i0.size = 1 ∧ i0.bytes = 8) := ⟨hi, hz0, hz1, hz2⟩
  clear hi hz0 hz1 hz2
  go_enter Tryd.func70, Tryd.ntmps70
  go_wp2_with (first
    | (at_make; refine mk_full (W := w) w.heap.size rfl (.tmp 11) (.tmp 11) 100 22 _ 24 rfl Tryd.underlying100 infoInts rfl (by decide) _ _ n rfl rfl rfl rfl (by omega) (Nat.le_refl _) ?_; intro w1 hown hgr)
    | (at_range; refine wpl_range rfl (.tmp 15) rfl m (w1.heap.size + 1) (by simp) rfl (HE.out.frame ((Below.heap_alloc _ _ _ (Nat.lt_of_lt_of_le hm hgr.size)).trans (hgr.block m hm (by simp)))) ?_; intro w2 hrg hg2 hs2))
  go_frame
  have hlt1 : w.heap.size < w1.heap.size := (hown.lt _ rfl).2
  go_loopg [6] E.length (fun k s wr => ∃ L T, Hid (L.length = k) ∧ OfInv w n m w1.heap.size w.heap.size (w1.heap.size + 1) (w1.heap.size + 2) E wr L T)
  case atStart =>
    refine ⟨E, fun _ => [], rfl, ?_, hrg, ?_, fun p hp => hp, by omega, ?_, filled_start E n⟩
    · exact (((Below.refl _ _).grown hgr (Nat.le_refl _) (by simp)).alloc hgr.size _).grown hg2 (by simp; omega) (by simp)
    · exact (hg2.block w1.heap.size (by simp) (by simp)).trans (heap_alloc_new _ _)
    · exact ((rows_start (base := w1.heap.size + 2) (by omega) hown).kept (World.grownBy_alloc _ _ none) (by simp) (by simp)).kept hg2 (by simp) (by simp)
  case round =>
    obtain ⟨L, T, HL, HV⟩ := hrel
    have hrg1 := HV.rng
    have hbs := HV.le
    have hbel := HV.bel
    have HV' := Lib.hid HV
    clear HV hrg hs2 hown
    go_wp2_with (at_next; refine wpl_next rfl (.tmp 16) rfl m (w1.heap.size + 1) rfl hrg1 ?_ ?_)
    · intro hL
      subst hL
      obtain ⟨wo, rfl⟩ : ∃ wo : World, wo = wr := ⟨_, rfl⟩
      have k2 := cell_of HV'.out.gbk 2
      have HF : Hid (Filled E [] n T) := HV'.out.fill
      have hbase := HV'.out.le
      go_wp2
      go_loopg [64] n (fun k s wx => ∃ q : Nat, k + q = n ∧ s = .int .i64 q ∧ Hid (Below w.heap.size w wx ∧ OwnRows wx (w1.heap.size + 2) w.heap.size n (fun j => if j < q then srt (T j) else T j) ∧ wx.heap[w1.heap.size]? = some (.cells #[.int .i64 (n : Int), .map (some m), .slice (some ⟨w.heap.size, 0, none⟩) n n] 102 (0, 0)) ∧ w1.heap.size + 2 ≤ wx.heap.size))
      case atStart =>
        refine ⟨0, rfl, rfl, HV'.out.bel, ?_, HV'.out.gbk, HV'.out.le⟩
        simpa using HV'.out.rows
      case round =>
        obtain ⟨q, hq, rfl, HX⟩ := hrel
        have HQ := Lib.hid hq
        clear hq k2
        by_cases hlt : q < n
        · obtain ⟨hb, ⟨vs, hR⟩, hg1, hle⟩ := HX.out
          obtain ⟨x, hx, hxo⟩ := hR.2.2.1 q hlt
          have t0 : wr.cell? ⟨w.heap.size, q, none⟩ = some x := by rw [cell_of hR.2.1 q]; simpa using hx
          have hlen : (T q).length < 4611686018427387904 := by have := HF.out.bound HR.out hlt; omega
          have hxo' : wr.ownsRow (w1.heap.size + 2) 3 1 x (T q).length ((T q).map (Value.int .i64)) := by simpa using hxo
          have HO := Lib.hid hxo'
          have HR' := Lib.hid hR
          have HX' := Lib.hid hx
          have HG := Lib.hid hg1
          have HB := Lib.hid hb
          clear hxo hxo' hR hx hg1 hb HX
          go_wp2_with (go_at_call 75; refine (Sort_own _ HO.out hlen).mono ?_; rintro e w' ⟨rfl, ho, hg⟩; have HO1 := Lib.hid ho; have HG1 := Lib.hid hg; clear ho hg)
          go_roundg (n - (q + 1))
          case measure => have := HQ.out; omega
          case rel =>
            have xb := HO.out.lt
            refine ⟨q + 1, by omega, by go_num, HB.out.grown HG1.out HB.out.size (fun c hc => by have := (xb c hc).1; omega), ?_, (HG1.out.block _ (by omega) (fun e => by have := (xb _ e.symm).1; omega)).trans HG.out, Nat.le_trans hle HG1.out.size⟩
            have h := HR'.out.sorted (i := q) (w' := w') HX'.out (by omega) HG1.out (by simpa using HO1.out) hlt
            refine ⟨vs, ?_⟩
            have e : (fun j => if j < q + 1 then srt (T j) else T j) = (fun k => if k = q then srt ((fun j => if j < q then srt (T j) else T j) q) else (fun j => if j < q then srt (T j) else T j) k) := by
              funext k
              by_cases h1 : k = q
              · subst h1; simp
              · by_cases h2 : k < q
                · simp [h1, h2, show k < q + 1 from by omega]
                · simp [h1, h2, show ¬ k < q + 1 from by omega]
            rw [e]
            exact h
        · have hqn : q = n := by have := HQ.out; omega
          obtain ⟨hb, ⟨vs, hR⟩, hg1, hle⟩ := HX.out
          have HR' := Lib.hid hR
          have HG := Lib.hid hg1
          have HB := Lib.hid hb
          clear hR hg1 hb HX
          go_wp2
          go_ret
          refine ⟨HB.out, _, rfl, ofE_ok HR.out hn, Nat.le_refl _, w1.heap.size, m, some ⟨w.heap.size, 0, none⟩, n, E, rfl, by omega, by omega, HG.out, hlo, by have := HB.out.size; omega, HE.out.frame (HB.out.block m hm), ofE_tells HR.out HE.out.nodup, ?_⟩
          have h := HR'.out.rows2 (lo := lo) (by omega) (by omega) hn
          obtain ⟨us, h1, h2⟩ := h
          refine ⟨us, h1, fun k hk => ?_⟩
          obtain ⟨x, hx, hxi⟩ := h2 k hk
          refine ⟨x, hx, ?_⟩
          have hk' : k < n := hk
          have e : (fun j => if j < q then srt (T j) else T j) k = up ((Gr.ofE n E).nb k) := by
            simp only [if_pos (show k < q from by omega)]
            exact filled_nb HR.out hn HF.out hk'
          rw [e] at hxi
          exact hxi
    · intro a b w3 hp hrg3 hg3 hs3 hen
      obtain ⟨hp0, hp1, hp2⟩ := HR.out (a, b) (HV'.out.sub _ hp)
      simp only at hp0 hp1 hp2
      obtain ⟨i, rfl⟩ := Int.eq_ofNat_of_zero_le hp0
      obtain ⟨j, rfl⟩ := Int.eq_ofNat_of_zero_le (Int.le_trans hp0 (Int.le_of_lt hp1))
      have hij : i < j := by omega
      have hjn : j < n := by omega
      have hin : i < n := by omega
      clear hp0 hp1 hp2
      obtain ⟨vs, R3'⟩ := HV'.out.rows.kept hg3 (by intro e; injection e; omega) (fun k e => by injection e; omega)
      have R3 := Lib.hid R3'
      clear R3'
      have G3 : Hid (w3.heap[w1.heap.size]? = some (.cells #[.int .i64 (n : Int), .map (some m), .slice (some ⟨w.heap.size, 0, none⟩) n n] 102 (0, 0))) := (hg3.block w1.heap.size (by omega) (by intro e; injection e; omega)).trans HV'.out.gbk
      have B3 : Hid (Below w.heap.size w w3) := hbel.grown hg3 hbel.size (fun k e => by injection e; omega)
      have HP := Lib.hid hp
      have H3 := Lib.hid hg3
      have HR3 := Lib.hid hrg3
      have b5 : w.heap.size < w3.heap.size := by omega
      have b6 : w1.heap.size < w3.heap.size := by omega
      have b7 : w1.heap.size + 2 ≤ w3.heap.size := by omega
      clear hp hg3 hs3 hrg3 hgr hg2 hrg1 hbs hbel
      unfold kv at hen ⊢
      go_wp2
      obtain ⟨W5, hW5⟩ : ∃ W, W = w3.alloc (.cells #[.int .i64 (i : Int), .int .i64 (j : Int)] 110) := ⟨_, rfl⟩
      rw [← hW5]
      have R5 : Hid (RowsAt W5 (w1.heap.size + 2) w.heap.size n T vs) := by rw [hW5]; exact R3.out.kept (World.grownBy_alloc _ _ none) (by simp) (by simp)
      have G5 : Hid (W5.heap[w1.heap.size]? = some (.cells #[.int .i64 (n : Int), .map (some m), .slice (some ⟨w.heap.size, 0, none⟩) n n] 102 (0, 0))) := by rw [hW5]; exact (Below.heap_alloc _ _ _ b6).trans G3.out
      have E5 : Hid (W5.heap[w3.heap.size]? = some (.cells #[.int .i64 (i : Int), .int .i64 (j : Int)] 110 (0, 0))) := by rw [hW5]; exact heap_alloc_new _ _
      have B5 : Hid (Below w.heap.size w W5) := by rw [hW5]; exact B3.out.alloc B3.out.size _
      have S5 : Hid (Rng W5 m (w1.heap.size + 1) (less L ((i : Int), (j : Int)))) := by
        have h := HR3.out
        rw [hW5]
        exact h.frame (Below.heap_alloc _ _ _ h.lt.1) (Below.heap_alloc _ _ _ h.lt.2)
      have b8 : W5.heap.size = w3.heap.size + 1 := by rw [hW5]; simp
      have H8 := Lib.hid b8
      have b9 : w3.heap.size < W5.heap.size := by omega
      clear hW5 b8
      -- row i gets j
      obtain ⟨x0, x0x, x0o⟩ := R5.out.2.2.1 i (by omega)
      have x0b := x0o.lt
      have x0l : ∀ c, x0.ownBlock = some c → c < w3.heap.size := by
        obtain ⟨y, hy, hyo⟩ := R3.out.2.2.1 i (by omega)
        have : some y = some x0 := by rw [← hy, ← x0x]
        cases this
        exact fun c hc => (hyo.lt c hc).2
      have q0g : some w1.heap.size ≠ x0.ownBlock := fun e => by have := x0b _ e.symm; omega
      have q0t : some w.heap.size ≠ x0.ownBlock := fun e => by have := x0b _ e.symm; omega
      have q0e : some w3.heap.size ≠ x0.ownBlock := fun e => by have := x0l _ e.symm; omega
      have k0 := cell_of G5.out 2
      have e0 := cell_of E5.out 0
      have e1 := cell_of E5.out 1
      have t0 : W5.cell? ⟨w.heap.size, i, none⟩ = some x0 := by rw [cell_of R5.out.2.1 i]; simpa using x0x
      have f0 := free_of R5.out.2.1 i
      have wl : w.heap.size < W5.heap.size := by omega
      have wl1 : w1.heap.size < W5.heap.size := by omega
      have hln : (T i).length ≤ 16777216 := (by have := HV'.out.fill.bound HR.out hin; omega)
      have XO0 := Lib.hid x0o
      have XX0 := Lib.hid x0x
      have QG0 := Lib.hid q0g
      have QT0 := Lib.hid q0t
      have QE0 := Lib.hid q0e
      clear x0o x0x x0b x0l q0g q0t q0e
      refine region_T (by kernel_rfl) (fun w' => w'.cell? ⟨w1.heap.size, 2, none⟩ = some (.slice (some ⟨w.heap.size, 0, none⟩) n n) ∧ w'.cell? ⟨w3.heap.size, 0, none⟩ = some (.int .i64 (i : Int)) ∧ w'.cell? ⟨w3.heap.size, 1, none⟩ = some (.int .i64 (j : Int)) ∧ w'.cell? ⟨w.heap.size, i, none⟩ = some x0) 19 ⟨k0, e0, e1, t0⟩ (fun HS => ?_)
      change anyT _ _ _ _ _ _ 20 _ _ _
      refine takeT (i := 0) (v := ?_) rfl rfl (by kernel_rfl) (fun _ _ _ h => h) rfl ?_ HS ?_
      rotate_left
      · intro w' hS'
        obtain ⟨s0, s1, s2, s3⟩ := hS'
        go_simp
        rfl
      rotate_left
      go_frame
      refine takeT (i := 1) (v := ?_) rfl rfl (by kernel_rfl) (fun _ _ _ h => h) rfl ?_ HS ?_
      rotate_left
      · intro w' hS'
        obtain ⟨s0, s1, s2, s3⟩ := hS'
        go_simp
        rfl
      rotate_left
      go_frame
      refine takeT (i := 2) (v := ?_) rfl rfl (by kernel_rfl) (fun _ _ _ h => h) rfl ?_ HS ?_
      rotate_left
      · intro w' hS'
        obtain ⟨s0, s1, s2, s3⟩ := hS'
        go_simp
        rfl
      rotate_left
      go_frame
      refine takeT (i := 3) (v := ?_) rfl rfl (by kernel_rfl) (fun _ _ _ h => h) rfl ?_ HS ?_
      rotate_left
      · intro w' hS'
        obtain ⟨s0, s1, s2, s3⟩ := hS'
        go_simp
        rfl
      rotate_left
      go_frame
      refine takeT (i := 4) (v := ?_) rfl rfl (by kernel_rfl) (fun _ _ _ h => h) rfl ?_ HS ?_
      rotate_left
      · intro w' hS'
        obtain ⟨s0, s1, s2, s3⟩ := hS'
        go_simp
        rfl
      rotate_left
      go_frame
      refine takeT (i := 5) (v := ?_) rfl rfl (by kernel_rfl) (fun _ _ _ h => h) rfl ?_ HS ?_
      rotate_left
      · intro w' hS'
        obtain ⟨s0, s1, s2, s3⟩ := hS'
        go_simp
        rfl
      rotate_left
      go_frame
      refine takeT (i := 6) (v := ?_) rfl rfl (by kernel_rfl) (fun _ _ _ h => h) rfl ?_ HS ?_
      rotate_left
      · intro w' hS'
        obtain ⟨s0, s1, s2, s3⟩ := hS'
        go_simp
        rfl
      rotate_left
      go_frame
      refine takeT (i := 7) (v := ?_) rfl rfl (by kernel_rfl) (fun _ _ _ h => h) rfl ?_ HS ?_
      rotate_left
      · intro w' hS'
        obtain ⟨s0, s1, s2, s3⟩ := hS'
        go_simp
        rfl
      rotate_left
      go_frame
      refine takeT (i := 8) (v := ?_) rfl rfl (by kernel_rfl) (fun _ _ _ h => h) rfl ?_ HS ?_
      rotate_left
      · intro w' hS'
        obtain ⟨s0, s1, s2, s3⟩ := hS'
        go_simp
        rfl
      rotate_left
      go_frame
      refine takeT (i := 9) (v := ?_) rfl rfl (by kernel_rfl) (fun _ _ _ h => h) rfl ?_ HS ?_
      rotate_left
      · intro w' hS'
        obtain ⟨s0, s1, s2, s3⟩ := hS'
        go_simp
        rfl
      rotate_left
      go_frame
      refine takeT (i := 10) (v := ?_) rfl rfl (by kernel_rfl) (fun _ _ _ h => h) rfl ?_ HS ?_
      rotate_left
      · intro w' hS'
        obtain ⟨s0, s1, s2, s3⟩ := hS'
        go_simp
        rfl
      rotate_left
      go_frame
      refine takeT (i := 11) (v := ?_) rfl rfl (by kernel_rfl) (fun _ _ _ h => h) rfl ?_ HS ?_
      rotate_left
      · intro w' hS'
        obtain ⟨s0, s1, s2, s3⟩ := hS'
        go_simp
        rfl
      rotate_left
      go_frame
      refine takeT (i := 12) (v := ?_) rfl rfl (by kernel_rfl) (fun _ _ _ h => h) rfl ?_ HS ?_
      rotate_left
      · intro w' hS'
        obtain ⟨s0, s1, s2, s3⟩ := hS'
        go_simp
        rfl
      rotate_left
      go_frame
      refine takeT (i := 13) (v := ?_) rfl rfl (by kernel_rfl) (fun _ _ _ h => h) rfl ?_ HS ?_
      rotate_left
      · intro w' hS'
        obtain ⟨s0, s1, s2, s3⟩ := hS'
        go_simp
        rfl
      rotate_left
      go_frame
      refine takeT (i := 14) (v := ?_) rfl rfl (by kernel_rfl) (fun _ _ _ h => h) rfl ?_ HS ?_
      rotate_left
      · intro w' hS'
        obtain ⟨s0, s1, s2, s3⟩ := hS'
        go_simp
        rfl
      rotate_left
      go_frame
      refine takeT (i := 15) (v := ?_) rfl rfl (by kernel_rfl) (fun _ _ _ h => h) rfl ?_ HS ?_
      rotate_left
      · intro w' hS'
        obtain ⟨s0, s1, s2, s3⟩ := hS'
        go_simp
        rfl
      rotate_left
      go_frame
      refine oneT (i := 16) rfl (by kernel_rfl) (fun K hK => ?_)
      go_simp
      refine hK.out _ _ (fun _ => ?_) ?_
      · exact ⟨(World.cell?_of_block (w := W5) (Below.heap_alloc W5 _ _ wl1)).trans k0, (World.cell?_of_block (w := W5) (Below.heap_alloc W5 _ _ b9)).trans e0, (World.cell?_of_block (w := W5) (Below.heap_alloc W5 _ _ b9)).trans e1, (World.cell?_of_block (w := W5) (Below.heap_alloc W5 _ _ wl)).trans t0⟩
      clear hK K
      refine oneT (i := 17) rfl (by kernel_rfl) (fun K hK => ?_)
      refine step_append_lies _ (by rfl) (.tmp 34) (.tmp 37) 22 (by rfl) (w1.heap.size + 2) 3 i0 (.int .i64 0) 1 8 Tryd.underlying22 HI.out.1 HI.out.2.1 HI.out.2.2.1 HI.out.2.2.2 rfl (by decide) x0 _ _ (by rfl) (XO0.out.alloc _).drew ⟨W5.heap.size, 0, none⟩ 1 1 [.int .i64 (j : Int)] (by rfl) rfl (World.news_of_block (cs := #[.int .i64 (j : Int)]) (t := 3) (fr := (0, 0)) (heap_alloc_new W5 _)) (by simp [Value.oneCell']) (by decide) (by unfold maxLen; omega) (by omega) (by simp; omega) (W5.heap.size + 1) (by simp) ?_
      intro g0 cap0 V0 hown0 hg0 hat0 hlt0
      have k0' := far_cell hg0 k0 QG0.out
      have e0' := far_cell hg0 e0 QE0.out
      have e1' := far_cell hg0 e1 QE0.out
      have t0' := far_cell hg0 t0 QT0.out
      have f0' := (far_frozen hg0 (a := ⟨w.heap.size, i, none⟩) wl QT0.out).trans f0
      refine hK.out _ _ (fun _ => ⟨k0', e0', e1', t0'⟩) ?_
      clear hK K
      have HS0 : (fun w' : World => w'.cell? ⟨w1.heap.size, 2, none⟩ = some (.slice (some ⟨w.heap.size, 0, none⟩) n n) ∧ w'.cell? ⟨w3.heap.size, 0, none⟩ = some (.int .i64 (i : Int)) ∧ w'.cell? ⟨w3.heap.size, 1, none⟩ = some (.int .i64 (j : Int)) ∧ w'.cell? ⟨w.heap.size, i, none⟩ = some x0) V0 := ⟨k0', e0', e1', t0'⟩
      go_frame
      refine takeT (i := 18) (v := ?_) rfl rfl (by kernel_rfl) (fun _ _ _ h => h) rfl ?_ HS0 ?_
      rotate_left
      · intro w' hS'
        obtain ⟨s0, s1, s2, s3⟩ := hS'
        go_simp
        rfl
      rotate_left
      go_frame
      refine oneT (i := 19) rfl (by kernel_rfl) (fun K hK => ?_)
      go_simp
      refine hK.out _ _ (fun h => absurd rfl h) ?_
      clear hK K
      refine doneT (by kernel_rfl) ?_ 0
      obtain ⟨W7, hW7⟩ : ∃ W, W = V0.setCell ⟨w.heap.size, i, none⟩ (.slice (some ⟨g0, 0, none⟩) ((T i).length + 1) cap0) := ⟨_, rfl⟩
      rw [← hW7]
      have R7 := Lib.hid (R5.out.app (y := (j : Int)) (by omega) XX0.out (by omega) (by omega) hg0 hown0 hat0)
      rw [← hW7] at R7
      have fb : ∀ c, c < W5.heap.size → some c ≠ x0.ownBlock → c ≠ w.heap.size → W7.heap[c]? = W5.heap[c]? := fun c h1 h2 h3 => by rw [hW7]; exact (Below.heap_setCell _ _ _ _ h3).trans (far_block hg0 h1 h2)
      have G7 : Hid (W7.heap[w1.heap.size]? = some (.cells #[.int .i64 (n : Int), .map (some m), .slice (some ⟨w.heap.size, 0, none⟩) n n] 102 (0, 0))) := (fb _ wl1 QG0.out (by omega)).trans G5.out
      have E7 : Hid (W7.heap[w3.heap.size]? = some (.cells #[.int .i64 (i : Int), .int .i64 (j : Int)] 110 (0, 0))) := (fb _ b9 QE0.out (by omega)).trans E5.out
      have hvs : W5.heap.size ≤ V0.heap.size := by have := hg0.size; simp at this; omega
      have B7 : Hid (Below w.heap.size w W7) := by
        rw [hW7]
        exact ((((B5.out.alloc B5.out.size _).drew).grown hg0 (by simp; omega) (fun c hc => by have := (XO0.out.lt c hc).1; omega))).setCell (by simp) _
      have S7 : Hid (Rng W7 m (w1.heap.size + 1) (less L ((i : Int), (j : Int)))) := by
        have h := S5.out
        exact h.frame (fb _ h.lt.1 (fun e => by have := (XO0.out.lt _ e.symm).1; omega) (by omega)) (fb _ h.lt.2 (fun e => by have := (XO0.out.lt _ e.symm).1; omega) (by omega))
      have hsz7 : W5.heap.size ≤ W7.heap.size := by rw [hW7, size_setCell]; exact hvs
      have b9 : w3.heap.size < W7.heap.size := by omega
      clear hW7 fb k0 e0 e1 t0 f0 k0' e0' e1' t0' f0' wl wl1 hvs hg0 hown0 hat0 hlt0 HS HS0 hln
      obtain ⟨T7, hT7⟩ : ∃ T7 : Nat → List Int, T7 = fun k => if k = i then T i ++ [(j : Int)] else T k := ⟨_, rfl⟩
      rw [← hT7] at R7
      have HT7 := Lib.hid hT7
      clear hT7
      go_wp2
      -- row j gets i
      obtain ⟨x1, x1x, x1o⟩ := R7.out.2.2.1 j (by omega)
      have x1b := x1o.lt
      have x1l : ∀ c, x1.ownBlock = some c → c < w3.heap.size := by
        obtain ⟨y, hy, hyo⟩ := R3.out.2.2.1 j (by omega)
        have : some y = some x1 := by rw [← hy, ← x1x, List.getElem?_set_ne (by omega)]
        cases this
        exact fun c hc => (hyo.lt c hc).2
      have q1g : some w1.heap.size ≠ x1.ownBlock := fun e => by have := x1b _ e.symm; omega
      have q1t : some w.heap.size ≠ x1.ownBlock := fun e => by have := x1b _ e.symm; omega
      have q1e : some w3.heap.size ≠ x1.ownBlock := fun e => by have := x1l _ e.symm; omega
      have k0 := cell_of G7.out 2
      have e0 := cell_of E7.out 0
      have e1 := cell_of E7.out 1
      have t0 : W7.cell? ⟨w.heap.size, j, none⟩ = some x1 := by rw [cell_of R7.out.2.1 j]; simpa using x1x
      have f0 := free_of R7.out.2.1 j
      have wl : w.heap.size < W7.heap.size := by omega
      have wl1 : w1.heap.size < W7.heap.size := by omega
      have hln : (T7 j).length ≤ 16777216 := (by have := HV'.out.fill.bound HR.out hjn; rw [HT7.out]; simp only [if_neg (show ¬ j = i from by omega)]; omega)
      have XO1 := Lib.hid x1o
      have XX1 := Lib.hid x1x
      have QG1 := Lib.hid q1g
      have QT1 := Lib.hid q1t
      have QE1 := Lib.hid q1e
      clear x1o x1x x1b x1l q1g q1t q1e
      refine region_T (by kernel_rfl) (fun w' => w'.cell? ⟨w1.heap.size, 2, none⟩ = some (.slice (some ⟨w.heap.size, 0, none⟩) n n) ∧ w'.cell? ⟨w3.heap.size, 0, none⟩ = some (.int .i64 (i : Int)) ∧ w'.cell? ⟨w3.heap.size, 1, none⟩ = some (.int .i64 (j : Int)) ∧ w'.cell? ⟨w.heap.size, j, none⟩ = some x1) 19 ⟨k0, e0, e1, t0⟩ (fun HS => ?_)
      change anyT _ _ _ _ _ _ 20 _ _ _
      refine takeT (i := 0) (v := ?_) rfl rfl (by kernel_rfl) (fun _ _ _ h => h) rfl ?_ HS ?_
      rotate_left
      · intro w' hS'
        obtain ⟨s0, s1, s2, s3⟩ := hS'
        go_simp
        rfl
      rotate_left
      go_frame
      refine takeT (i := 1) (v := ?_) rfl rfl (by kernel_rfl) (fun _ _ _ h => h) rfl ?_ HS ?_
      rotate_left
      · intro w' hS'
        obtain ⟨s0, s1, s2, s3⟩ := hS'
        go_simp
        rfl
      rotate_left
      go_frame
      refine takeT (i := 2) (v := ?_) rfl rfl (by kernel_rfl) (fun _ _ _ h => h) rfl ?_ HS ?_
      rotate_left
      · intro w' hS'
        obtain ⟨s0, s1, s2, s3⟩ := hS'
        go_simp
        rfl
      rotate_left
      go_frame
      refine takeT (i := 3) (v := ?_) rfl rfl (by kernel_rfl) (fun _ _ _ h => h) rfl ?_ HS ?_
      rotate_left
      · intro w' hS'
        obtain ⟨s0, s1, s2, s3⟩ := hS'
        go_simp
        rfl
      rotate_left
      go_frame
      refine takeT (i := 4) (v := ?_) rfl rfl (by kernel_rfl) (fun _ _ _ h => h) rfl ?_ HS ?_
      rotate_left
      · intro w' hS'
        obtain ⟨s0, s1, s2, s3⟩ := hS'
        go_simp
        rfl
      rotate_left
      go_frame
      refine takeT (i := 5) (v := ?_) rfl rfl (by kernel_rfl) (fun _ _ _ h => h) rfl ?_ HS ?_
      rotate_left
      · intro w' hS'
        obtain ⟨s0, s1, s2, s3⟩ := hS'
        go_simp
        rfl
      rotate_left
      go_frame
      refine takeT (i := 6) (v := ?_) rfl rfl (by kernel_rfl) (fun _ _ _ h => h) rfl ?_ HS ?_
      rotate_left
      · intro w' hS'
        obtain ⟨s0, s1, s2, s3⟩ := hS'
        go_simp
        rfl
      rotate_left
      go_frame
      refine takeT (i := 7) (v := ?_) rfl rfl (by kernel_rfl) (fun _ _ _ h => h) rfl ?_ HS ?_
      rotate_left
      · intro w' hS'
        obtain ⟨s0, s1, s2, s3⟩ := hS'
        go_simp
        rfl
      rotate_left
      go_frame
      refine takeT (i := 8) (v := ?_) rfl rfl (by kernel_rfl) (fun _ _ _ h => h) rfl ?_ HS ?_
      rotate_left
      · intro w' hS'
        obtain ⟨s0, s1, s2, s3⟩ := hS'
        go_simp
        rfl
      rotate_left
      go_frame
      refine takeT (i := 9) (v := ?_) rfl rfl (by kernel_rfl) (fun _ _ _ h => h) rfl ?_ HS ?_
      rotate_left
      · intro w' hS'
        obtain ⟨s0, s1, s2, s3⟩ := hS'
        go_simp
        rfl
      rotate_left
      go_frame
      refine takeT (i := 10) (v := ?_) rfl rfl (by kernel_rfl) (fun _ _ _ h => h) rfl ?_ HS ?_
      rotate_left
      · intro w' hS'
        obtain ⟨s0, s1, s2, s3⟩ := hS'
        go_simp
        rfl
      rotate_left
      go_frame
      refine takeT (i := 11) (v := ?_) rfl rfl (by kernel_rfl) (fun _ _ _ h => h) rfl ?_ HS ?_
      rotate_left
      · intro w' hS'
        obtain ⟨s0, s1, s2, s3⟩ := hS'
        go_simp
        rfl
      rotate_left
      go_frame
      refine takeT (i := 12) (v := ?_) rfl rfl (by kernel_rfl) (fun _ _ _ h => h) rfl ?_ HS ?_
      rotate_left
      · intro w' hS'
        obtain ⟨s0, s1, s2, s3⟩ := hS'
        go_simp
        rfl
      rotate_left
      go_frame
      refine takeT (i := 13) (v := ?_) rfl rfl (by kernel_rfl) (fun _ _ _ h => h) rfl ?_ HS ?_
      rotate_left
      · intro w' hS'
        obtain ⟨s0, s1, s2, s3⟩ := hS'
        go_simp
        rfl
      rotate_left
      go_frame
      refine takeT (i := 14) (v := ?_) rfl rfl (by kernel_rfl) (fun _ _ _ h => h) rfl ?_ HS ?_
      rotate_left
      · intro w' hS'
        obtain ⟨s0, s1, s2, s3⟩ := hS'
        go_simp
        rfl
      rotate_left
      go_frame
      refine takeT (i := 15) (v := ?_) rfl rfl (by kernel_rfl) (fun _ _ _ h => h) rfl ?_ HS ?_
      rotate_left
      · intro w' hS'
        obtain ⟨s0, s1, s2, s3⟩ := hS'
        go_simp
        rfl
      rotate_left
      go_frame
      refine oneT (i := 16) rfl (by kernel_rfl) (fun K hK => ?_)
      go_simp
      refine hK.out _ _ (fun _ => ?_) ?_
      · exact ⟨(World.cell?_of_block (w := W7) (Below.heap_alloc W7 _ _ wl1)).trans k0, (World.cell?_of_block (w := W7) (Below.heap_alloc W7 _ _ b9)).trans e0, (World.cell?_of_block (w := W7) (Below.heap_alloc W7 _ _ b9)).trans e1, (World.cell?_of_block (w := W7) (Below.heap_alloc W7 _ _ wl)).trans t0⟩
      clear hK K
      refine oneT (i := 17) rfl (by kernel_rfl) (fun K hK => ?_)
      refine step_append_lies _ (by rfl) (.tmp 53) (.tmp 56) 22 (by rfl) (w1.heap.size + 2) 3 i0 (.int .i64 0) 1 8 Tryd.underlying22 HI.out.1 HI.out.2.1 HI.out.2.2.1 HI.out.2.2.2 rfl (by decide) x1 _ _ (by rfl) (XO1.out.alloc _).drew ⟨W7.heap.size, 0, none⟩ 1 1 [.int .i64 (i : Int)] (by rfl) rfl (World.news_of_block (cs := #[.int .i64 (i : Int)]) (t := 3) (fr := (0, 0)) (heap_alloc_new W7 _)) (by simp [Value.oneCell']) (by decide) (by unfold maxLen; omega) (by omega) (by simp; omega) (W7.heap.size + 1) (by simp) ?_
      intro g1 cap1 V1 hown1 hg1 hat1 hlt1
      have k0' := far_cell hg1 k0 QG1.out
      have e0' := far_cell hg1 e0 QE1.out
      have e1' := far_cell hg1 e1 QE1.out
      have t0' := far_cell hg1 t0 QT1.out
      have f0' := (far_frozen hg1 (a := ⟨w.heap.size, j, none⟩) wl QT1.out).trans f0
      refine hK.out _ _ (fun _ => ⟨k0', e0', e1', t0'⟩) ?_
      clear hK K
      have HS1 : (fun w' : World => w'.cell? ⟨w1.heap.size, 2, none⟩ = some (.slice (some ⟨w.heap.size, 0, none⟩) n n) ∧ w'.cell? ⟨w3.heap.size, 0, none⟩ = some (.int .i64 (i : Int)) ∧ w'.cell? ⟨w3.heap.size, 1, none⟩ = some (.int .i64 (j : Int)) ∧ w'.cell? ⟨w.heap.size, j, none⟩ = some x1) V1 := ⟨k0', e0', e1', t0'⟩
      go_frame
      refine takeT (i := 18) (v := ?_) rfl rfl (by kernel_rfl) (fun _ _ _ h => h) rfl ?_ HS1 ?_
      rotate_left
      · intro w' hS'
        obtain ⟨s0, s1, s2, s3⟩ := hS'
        go_simp
        rfl
      rotate_left
      go_frame
      refine oneT (i := 19) rfl (by kernel_rfl) (fun K hK => ?_)
      go_simp
      refine hK.out _ _ (fun h => absurd rfl h) ?_
      clear hK K
      refine doneT (by kernel_rfl) ?_ 0
      obtain ⟨W9, hW9⟩ : ∃ W, W = V1.setCell ⟨w.heap.size, j, none⟩ (.slice (some ⟨g1, 0, none⟩) ((T7 j).length + 1) cap1) := ⟨_, rfl⟩
      rw [← hW9]
      have R9 := Lib.hid (R7.out.app (y := (i : Int)) hjn XX1.out (by omega) (by omega) hg1 hown1 hat1)
      rw [← hW9] at R9
      have fb : ∀ c, c < W7.heap.size → some c ≠ x1.ownBlock → c ≠ w.heap.size → W9.heap[c]? = W7.heap[c]? := fun c h1 h2 h3 => by rw [hW9]; exact (Below.heap_setCell _ _ _ _ h3).trans (far_block hg1 h1 h2)
      have G9 : Hid (W9.heap[w1.heap.size]? = some (.cells #[.int .i64 (n : Int), .map (some m), .slice (some ⟨w.heap.size, 0, none⟩) n n] 102 (0, 0))) := (fb _ wl1 QG1.out (by omega)).trans G7.out
      have E9 : Hid (W9.heap[w3.heap.size]? = some (.cells #[.int .i64 (i : Int), .int .i64 (j : Int)] 110 (0, 0))) := (fb _ b9 QE1.out (by omega)).trans E7.out
      have hvs : W7.heap.size ≤ V1.heap.size := by have := hg1.size; simp at this; omega
      have B9 : Hid (Below w.heap.size w W9) := by
        rw [hW9]
        exact ((((B7.out.alloc B7.out.size _).drew).grown hg1 (by simp; omega) (fun c hc => by have := (XO1.out.lt c hc).1; omega))).setCell (by simp) _
      have S9 : Hid (Rng W9 m (w1.heap.size + 1) (less L ((i : Int), (j : Int)))) := by
        have h := S7.out
        exact h.frame (fb _ h.lt.1 (fun e => by have := (XO1.out.lt _ e.symm).1; omega) (by omega)) (fb _ h.lt.2 (fun e => by have := (XO1.out.lt _ e.symm).1; omega) (by omega))
      have hsz9 : W7.heap.size ≤ W9.heap.size := by rw [hW9, size_setCell]; exact hvs
      have b9 : w3.heap.size < W9.heap.size := by omega
      clear hW9 fb k0 e0 e1 t0 f0 k0' e0' e1' t0' f0' wl wl1 hvs hg1 hown1 hat1 hlt1 HS HS1 hln
      go_wp2
      go_roundg (less L ((i : Int), (j : Int))).length
      case measure => have := less_lt HP.out; have := HL.out; omega
      case rel =>
        refine ⟨_, _, rfl, ⟨B9.out, S9.out, G9.out, fun p hp => HV'.out.sub p (mem_less.1 hp).1, by omega, ⟨_, R9.out⟩, ?_⟩⟩
        have := HV'.out.fill.step HR.out hij hjn HP.out HV'.out.sub
        rw [HT7.out]
        exact this
end Go.Proofs.YthbojpaghbbnnaaDoor
namespace Go.Proofs.YthbojpaghbbnnaaDoor
open Go.RowKit Go.WideMaps Go.Maps
set_option linter.unusedVariables false
set_option linter.unusedSimpArgs false
theorem is_yes (v n : Int) (w : World) (h : 0 ≤ v ∧ v < n) : Calls Tryd.prog 68 #[.int .i64 v, .int .i64 n] w fun e w' => e = .returned (.bool true) ∧ w = w' :=
  (is_any v n w).mono fun e w' ⟨h1, h2⟩ => ⟨by rw [h1]; simp [h], h2⟩
theorem is_no (v n : Int) (w : World) (h : ¬ (0 ≤ v ∧ v < n)) : Calls Tryd.prog 68 #[.int .i64 v, .int .i64 n] w fun e w' => e = .returned (.bool false) ∧ w = w' :=
  (is_any v n w).mono fun e w' ⟨h1, h2⟩ => ⟨by
    rw [h1]
    have : (decide (0 ≤ v) && decide (v < n)) = false := by simp; omega
    rw [this], h2⟩
def okP (n : Nat) (p : Int × Int) : Bool := decide (0 ≤ p.1) && decide (p.1 < n) && decide (0 ≤ p.2) && decide (p.2 < n)
theorem okP_iff {n : Nat} {p : Int × Int} : okP n p = true ↔ (0 ≤ p.1 ∧ p.1 < n) ∧ 0 ≤ p.2 ∧ p.2 < n := by simp [okP]; omega
/-- The edges that pairs make, as keys. -/
def stepE (E : List (Int × Int)) (p : Int × Int) : List (Int × Int) := if p.1 = p.2 then E else addE E (min p.1 p.2, max p.1 p.2)
def mkE (ps : List (Int × Int)) : List (Int × Int) := ps.foldl stepE []
theorem mkE_snoc (ps : List (Int × Int)) (p : Int × Int) : mkE (ps ++ [p]) = stepE (mkE ps) p := by simp [mkE, List.foldl_append]
theorem mem_addE {E : List (Int × Int)} {p q : Int × Int} : q ∈ addE E p ↔ q ∈ E ∨ q = p := by
  unfold addE
  split
  · rename_i h
    exact ⟨.inl, fun k => k.elim id (fun e => e ▸ h)⟩
  · simp
theorem mem_mkE (ps : List (Int × Int)) (q : Int × Int) : q ∈ mkE ps ↔ ∃ p ∈ ps, p.1 ≠ p.2 ∧ q = (min p.1 p.2, max p.1 p.2) := by
  suffices h : ∀ (ps : List (Int × Int)) (E : List (Int × Int)), q ∈ ps.foldl stepE E ↔ q ∈ E ∨ ∃ p ∈ ps, p.1 ≠ p.2 ∧ q = (min p.1 p.2, max p.1 p.2) by
    rw [mkE, h]; simp
  intro ps
  induction ps with
  | nil => intro E; simp
  | cons p ps ih =>
    intro E
    rw [List.foldl_cons, ih]
    simp only [stepE]
    by_cases e : p.1 = p.2
    · simp [e]
    · rw [if_neg e, mem_addE]
      simp only [List.mem_cons, exists_eq_or_imp, ne_eq, e, not_false_eq_true, true_and]
      rw [or_assoc]
/-- The graph that pairs make. -/
def Gr.ofPairs (n : Nat) (ps : List (Int × Int)) : Gr := ⟨n, fun u v => decide (u ≠ v) && ps.any (fun p => (decide (p.1 = u) && decide (p.2 = v)) || (decide (p.1 = v) && decide (p.2 = u)))⟩
theorem ofE_mkE (n : Nat) (ps : List (Int × Int)) : Gr.ofE n (mkE ps) = Gr.ofPairs n ps := by
  unfold Gr.ofE Gr.ofPairs
  congr 1
  funext u v
  rw [Bool.eq_iff_iff, decide_eq_true_eq, mem_mkE]
  simp only [Bool.and_eq_true, decide_eq_true_eq, List.any_eq_true, Bool.or_eq_true, Prod.mk.injEq, ne_eq]
  constructor
  · rintro ⟨p, hp, hne, e1, e2⟩
    refine ⟨by omega, p, hp, by omega⟩
  · rintro ⟨hne, p, hp, h⟩
    exact ⟨p, hp, by omega, by omega, by omega⟩
theorem edgy_mkE {n : Nat} {ps : List (Int × Int)} (h : ∀ p ∈ ps, okP n p = true) : Edgy n (mkE ps) := by
  intro q hq
  obtain ⟨p, hp, hne, rfl⟩ := (mem_mkE ps q).1 hq
  have := okP_iff.1 (h p hp)
  simp only
  omega
set_option maxRecDepth 100000 in
set_option maxHeartbeats 4000000 in
theorem Make_out (w : World) (n : Int) (v : Value) (h : n < 0 ∨ 16777216 < n) :
    Calls Tryd.prog 51 #[.int .i64 n, v] w fun e w' => e = .returned (.tuple #[.pointer none, .int .i64 41]) ∧ Below w.heap.size w w' := by
  rcases h with h | h
  · go_enter Tryd.func51, Tryd.ntmps51
    go_wp2
    go_ret2
    exact ⟨rfl, Below.refl _ _⟩
  · have h' : 0 ≤ n := by omega
    go_enter Tryd.func51, Tryd.ntmps51
    go_wp2
    go_ret2
    exact ⟨rfl, Below.refl _ _⟩
def MakeInv (w wr : World) (ps : List (Int × Int)) (n k : Nat) : Prop := Below w.heap.size w wr ∧ EMap wr w.heap.size (mkE (ps.take k)) ∧ ∀ p ∈ ps.take k, okP n p = true
set_option maxRecDepth 100000 in
set_option maxHeartbeats 4000000 in
theorem Make_in (w : World) (n : Nat) (hn : n ≤ 16777216) {lo hi : Nat} {v : Value} {ps : List (Int × Int)} (hv : Prs w lo hi v ps) :
    Calls Tryd.prog 51 #[.int .i64 (n : Int), v] w fun e w' => Below w.heap.size w w' ∧
      ((∀ p ∈ ps, okP n p = true) → ∃ g, e = .returned (.tuple #[g, .int .i64 0]) ∧ PG w' w.heap.size w'.heap.size g (Gr.ofPairs n ps)) ∧
      ((∃ p ∈ ps, okP n p = false) → e = .returned (.tuple #[.pointer none, .int .i64 42])) := by
  obtain ⟨hl, A, c, rfl⟩ := hv.form
  have hmm := @run_makeMap Tryd.prog
  go_enter Tryd.func51, Tryd.ntmps51
  go_wp2
  go_loopg [18] ps.length (fun g s wr => ∃ k : Nat, g + k = ps.length ∧ s = .int .i64 k ∧ Hid (MakeInv w wr ps n k))
  case atStart => exact ⟨0, rfl, rfl, (Below.refl _ _).alloc (Nat.le_refl _) _, EMap.made w, by simp⟩
  case round =>
    clear hmm
    obtain ⟨k, hk, rfl, HI⟩ := hrel
    have HK := Lib.hid hk
    clear hk
    by_cases hlt : k < ps.length
    · have hpv := hv.at_ HI.out.1
      obtain ⟨b, off, p, rfl, _, _, hc, X⟩ := hpv.get encP_len k hlt
      have c0 := hc 0 (by omega)
      have c1 := hc 1 (by omega)
      obtain ⟨x, y⟩ := p
      simp only [encP, Nat.add_zero, List.getElem?_cons_zero, List.getElem?_cons_succ] at c0 c1
      clear hc hpv
      have hst : mkE (ps.take (k + 1)) = stepE (mkE (ps.take k)) (x, y) := by rw [take_snoc' X.out, mkE_snoc]
      have HST := Lib.hid hst
      have hm := HI.out.2.1.lt
      clear hst
      by_cases hx : 0 ≤ x ∧ x < n
      · by_cases hy : 0 ≤ y ∧ y < n
        · by_cases hxy : x = y
          · subst hxy
            go_wp2_with (go_at_call 68; refine (is_yes _ _ _ (by omega)).mono ?_; rintro e w' ⟨rfl, rfl⟩)
            go_roundg (ps.length - (k + 1))
            case measure => have := HK.out; omega
            case rel =>
              refine ⟨k + 1, by omega, by go_num, HI.out.1.alloc HI.out.1.size _, ?_, ?_⟩
              · rw [HST.out, stepE, if_pos rfl]
                exact HI.out.2.1.frame (Below.heap_alloc _ _ _ hm)
              · intro p hp
                rw [take_snoc' X.out] at hp
                rcases List.mem_append.1 hp with hp | hp
                · exact HI.out.2.2 p hp
                · rw [List.mem_singleton.1 hp]; exact okP_iff.2 ⟨hx, hx⟩
          · have hb1 : (x != y) = true := by simpa using hxy
            have hb2 : (x == y) = false := by simpa using hxy
            go_wp2_with (first
              | (go_at_call 68; refine (is_yes _ _ _ (by omega)).mono ?_; rintro e w' ⟨rfl, rfl⟩)
              | (go_at_call 69; refine (key_any _ _ _).mono ?_; rintro e w' ⟨rfl, rfl⟩)
              | (at_mapUpdate; refine wpl_update rfl (.tmp 39) (.tmp 44) _ rfl w.heap.size (min x y) (max x y) rfl rfl rfl ((HI.out.2.1.frame (Below.heap_alloc _ _ _ hm)).frame (Below.heap_alloc _ _ _ (by simp; omega))) (by unfold Wf; omega) (by unfold Wf; omega) ?_; intro w3 hE3 hg3 hs3))
            go_roundg (ps.length - (k + 1))
            case measure => have := HK.out; omega
            case rel =>
              refine ⟨k + 1, by omega, by go_num, ((HI.out.1.alloc HI.out.1.size _).alloc (by have := HI.out.1.size; simp; omega) _).grown hg3 (by have := HI.out.1.size; simp; omega) (fun c hc => by injection hc; omega), ?_, ?_⟩
              · rw [HST.out, stepE, if_neg hxy]
                exact hE3
              · intro p hp
                rw [take_snoc' X.out] at hp
                rcases List.mem_append.1 hp with hp | hp
                · exact HI.out.2.2 p hp
                · rw [List.mem_singleton.1 hp]; exact okP_iff.2 ⟨hx, hy⟩
        · go_wp2_with (go_at_call 68; first | (refine (is_yes _ _ _ (by omega)).mono ?_; rintro e w' ⟨rfl, rfl⟩) | (refine (is_no _ _ _ (by omega)).mono ?_; rintro e w' ⟨rfl, rfl⟩))
          go_ret2
          have hm : (x, y) ∈ ps := List.mem_of_getElem? X.out
          exact ⟨HI.out.1.alloc HI.out.1.size _, fun h => absurd (okP_iff.1 (h _ hm)).2 hy, fun _ => rfl⟩
      · go_wp2_with (go_at_call 68; refine (is_no _ _ _ (by omega)).mono ?_; rintro e w' ⟨rfl, rfl⟩)
        go_ret2
        have hm : (x, y) ∈ ps := List.mem_of_getElem? X.out
        exact ⟨HI.out.1.alloc HI.out.1.size _, fun h => absurd (okP_iff.1 (h _ hm)).1 hx, fun _ => rfl⟩
    · have hk : k = ps.length := by have := HK.out; omega
      have hI := HI.out
      rw [hk, MakeInv, List.take_length] at hI
      have hI' := Lib.hid hI
      clear HI hI hk HK
      go_wp2_with (go_at_call 70; refine (of_any wr n hn w.heap.size w.heap.size (mkE ps) hI'.out.2.1 (edgy_mkE hI'.out.2.2) (Nat.le_refl _)).mono ?_; rintro e w' ⟨hb, g, rfl, hg⟩; have HB := Lib.hid hb; have HG := Lib.hid hg; clear hb hg)
      go_ret2
      refine ⟨below_then' hI'.out.1 HB.out, fun _ => ⟨g, rfl, ?_⟩, fun ⟨p, hp, h⟩ => ?_⟩
      · rw [← ofE_mkE]; exact HG.out
      · rw [hI'.out.2.2 p hp] at h; cases h
end Go.Proofs.YthbojpaghbbnnaaDoor
namespace Go.Proofs.YthbojpaghbbnnaaDoor
open Go.RowKit Go.WideMaps Go.Maps
set_option linter.unusedVariables false
set_option linter.unusedSimpArgs false
/-- The graph's struct opened: block b, the map in block m, the rows t. -/
structure PGc (w : World) (lo hi b m : Nat) (t : Option Addr) (c : Nat) (E : List (Int × Int)) (G : Gr) : Prop where
  ok : G.Ok
  lt : b < w.heap.size
  c0 : w.cell? ⟨b, 0, none⟩ = some (.int .i64 (G.n : Int))
  c1 : w.cell? ⟨b, 1, none⟩ = some (.map (some m))
  c2 : w.cell? ⟨b, 2, none⟩ = some (.slice t G.n c)
  map : EMap w m E
  tells : Tells E G
  le : hi ≤ w.heap.size
  rows : Rows2 w lo hi (.slice t G.n c) G.n (fun u => up (G.nb u))
theorem PG.open_ {w : World} {lo hi : Nat} {g : Value} {G : Gr} (h : PG w lo hi g G) : ∃ b m t c E, g = .pointer (some ⟨b, 0, none⟩) ∧ PGc w lo hi b m t c E G := by
  obtain ⟨h0, h1, b, m, t, c, E, rfl, h3, h4, h5, h6, h7, h8, h9, h10⟩ := h
  exact ⟨b, m, t, c, E, rfl, h0, (Array.getElem?_eq_some_iff.1 h5).1, cell_of h5 0, cell_of h5 1, cell_of h5 2, h8, h9, h1, h10⟩
theorem PGc.at_ {w w' : World} {lo hi b m : Nat} {t : Option Addr} {c : Nat} {E : List (Int × Int)} {G : Gr} (h : PGc w lo hi b m t c E G) (k : Below w.heap.size w w') : PGc w' lo hi b m t c E G where
  ok := h.ok
  lt := Nat.lt_of_lt_of_le h.lt k.size
  c0 := (k.cell (p := ⟨b, 0, none⟩) h.lt).trans h.c0
  c1 := (k.cell (p := ⟨b, 1, none⟩) h.lt).trans h.c1
  c2 := (k.cell (p := ⟨b, 2, none⟩) h.lt).trans h.c2
  map := h.map.frame (k.block m h.map.lt)
  tells := h.tells
  le := Nat.le_trans h.le k.size
  rows := h.rows.frame (same_below k h.le)
end Go.Proofs.YthbojpaghbbnnaaDoor
namespace Go.Proofs.YthbojpaghbbnnaaDoor
open Go.RowKit Go.WideMaps Go.Maps
set_option linter.unusedVariables false
set_option linter.unusedSimpArgs false
def mixL (L : List (Int × List Int)) (vs : List Value) : List Value := (List.zipWith (fun p x => [Value.int .i64 p.1, x]) L vs).flatten
/-- .. that the call owns, each list at a block of its own kind. -/
def OwnL (w : World) (base : Nat) (v : Value) (L : List (Int × List Int)) : Prop :=
  ∃ vs : List Value, vs.length = L.length ∧ w.ownsRow base 74 2 v L.length (mixL L vs) ∧ ∀ (i : Nat) (p : Int × List Int) (x : Value), L[i]? = some p → vs[i]? = some x → w.ownsRow base 3 1 x p.2.length (p.2.map (Value.int .i64))
theorem OwnL.nil (w : World) (base : Nat) : OwnL w base (.slice none 0 0) [] := ⟨[], rfl, World.ownsRow_nil _ _ _ _, fun i p x h => by simp at h⟩
end Go.Proofs.YthbojpaghbbnnaaDoor
namespace Go.Proofs.YthbojpaghbbnnaaDoor
open Go.RowKit Go.WideMaps Go.Maps
set_option linter.unusedVariables false
set_option linter.unusedSimpArgs false
abbrev Chg := (Int × Int) × Bool
end Go.Proofs.YthbojpaghbbnnaaDoor
namespace Go.Proofs.YthbojpaghbbnnaaDoor
set_option linter.unusedVariables false
set_option linter.unusedSimpArgs false
/-- b stands at the end of a way from a through vertices of K. -/
inductive Con (G : Gr) (K : Nat → Bool) (a : Nat) : Nat → Prop
  | here : Con G K a a
  | step {x y : Nat} : Con G K a x → G.adj x y = true → K y = true → Con G K a y
/-- All labels are below B, all kept vertices below D have one; T: the pairs still to be looked at. -/
structure PInv (G : Gr) (K : Nat → Bool) (B D : Nat) (p : List Int) (T : Nat → Nat → Prop) : Prop where
  len : p.length = G.n
  lab : ∀ (x : Nat) (a : Int), p[x]? = some a → a = -1 ∨ ∃ r : Nat, a = r ∧ r ≤ x ∧ r < B ∧ K r = true ∧ K x = true ∧ Con G K r x ∧ p[r]? = some (r : Int)
  don : ∀ x, x < G.n → x < D → K x = true → p[x]? ≠ some (-1)
  clo : ∀ x y, K x = true → K y = true → G.adj x y = true → p[x]? ≠ some (-1) → p[y]? = p[x]? ∨ T x y
def Parted (G : Gr) (K : Nat → Bool) (p : List Int) : Prop := PInv G K G.n G.n p (fun _ _ => False)
variable {G : Gr} {K : Nat → Bool} {B D v : Nat} {p : List Int} {T : Nat → Nat → Prop}
theorem PInv.start {G : Gr} (hG : G.Ok) (K : Nat → Bool) : PInv G K 0 0 (List.replicate G.n (-1)) (fun _ _ => False) where
  len := by simp
  lab x a h := by
    rw [List.getElem?_replicate] at h
    split at h
    · injection h with h; exact .inl h.symm
    · cases h
  don x _ h := by omega
  clo x y _ _ hk hx := by
    rw [List.getElem?_replicate, if_pos (hG.rng x y hk)] at hx
    exact absurd rfl hx
theorem PInv.weak {T' : Nat → Nat → Prop} (h : PInv G K B D p T) (ht : ∀ x y, K x = true → K y = true → G.adj x y = true → p[x]? ≠ some (-1) → T x y → p[y]? = p[x]? ∨ T' x y) : PInv G K B D p T' :=
  ⟨h.len, h.lab, h.don, fun x y h1 h2 h3 h4 => (h.clo x y h1 h2 h3 h4).elim .inl (ht x y h1 h2 h3 h4)⟩
theorem PInv.skip (h : PInv G K B D p T) (hd : K D = true → p[D]? ≠ some (-1)) : PInv G K (B + 1) (D + 1) p T where
  len := h.len
  lab x a k := (h.lab x a k).imp id (fun ⟨r, h1, h2, h3, h4⟩ => ⟨r, h1, h2, by omega, h4⟩)
  don x hn hx hk := by
    rcases Nat.lt_or_ge x D with h1 | h1
    · exact h.don x hn h1 hk
    · have : x = D := by omega
      subst this; exact hd hk
  clo := h.clo
theorem PInv.label {B' r w : Nat} (h : PInv G K B D p T) (hB : B ≤ B') (hw : p[w]? = some (-1)) (hr : r < B') (hrw : r ≤ w) (hKr : K r = true) (hKw : K w = true) (hc : Con G K r w) (hp : r = w ∨ p[r]? = some (r : Int)) :
    PInv G K B' D (p.set w r) (fun x y => T x y ∨ x = w) where
  len := by rw [List.length_set, h.len]
  lab x a k := by
    have hlt : w < p.length := (List.getElem?_eq_some_iff.1 hw).1
    by_cases e : w = x
    · subst e
      rw [get_set_eq _ hlt] at k
      injection k with k
      refine .inr ⟨r, k.symm, hrw, hr, hKr, hKw, hc, ?_⟩
      rcases hp with rfl | hp
      · exact get_set_eq _ hlt
      · by_cases e2 : w = r
        · subst e2; exact get_set_eq _ hlt
        · rw [get_set_ne _ e2]; exact hp
    · rw [get_set_ne _ e] at k
      refine (h.lab x a k).imp id (fun ⟨s, h1, h2, h3, h4, h5, h6, h7⟩ => ⟨s, h1, h2, by omega, h4, h5, h6, ?_⟩)
      have : w ≠ s := fun e => by subst e; rw [hw] at h7; injection h7 with h7; omega
      rw [get_set_ne _ this]; exact h7
  don x hn hx hk := by
    have hlt : w < p.length := (List.getElem?_eq_some_iff.1 hw).1
    by_cases e : w = x
    · subst e; rw [get_set_eq _ hlt]; intro k; injection k with k; omega
    · rw [get_set_ne _ e]; exact h.don x hn hx hk
  clo x y h1 h2 h3 h4 := by
    have hlt : w < p.length := (List.getElem?_eq_some_iff.1 hw).1
    by_cases e : w = x
    · exact .inr (.inr e.symm)
    · rw [get_set_ne _ e] at h4 ⊢
      rcases h.clo x y h1 h2 h3 h4 with k | k
      · have : w ≠ y := fun e => by subst e; rw [hw] at k; exact h4 k.symm
        rw [get_set_ne _ this]; exact .inl k
      · exact .inr (.inl k)
theorem Parted.con (h : Parted G K p) {r x : Nat} (hr : K r = true) (hn : p[r]? ≠ some (-1)) (hc : Con G K r x) : K x = true ∧ p[x]? = p[r]? := by
  induction hc with
  | here => exact ⟨hr, rfl⟩
  | step _ hk hy ih =>
    refine ⟨hy, ?_⟩
    rcases h.clo _ _ ih.1 hy hk (by rw [ih.2]; exact hn) with k | k
    · rw [k, ih.2]
    · exact absurd k id
theorem Parted.uniq {q : List Int} (h : Parted G K p) (k : Parted G K q) : p = q := by
  refine List.ext_getElem? (fun x => ?_)
  rcases Nat.lt_or_ge x G.n with hx | hx
  · obtain ⟨a, ha⟩ : ∃ a, p[x]? = some a := ⟨_, List.getElem?_eq_getElem (by rw [h.len]; exact hx)⟩
    obtain ⟨b, hb⟩ : ∃ b, q[x]? = some b := ⟨_, List.getElem?_eq_getElem (by rw [k.len]; exact hx)⟩
    by_cases hk : K x = true
    · have h1 := h.don x hx hx hk
      have h2 := k.don x hx hx hk
      rcases h.lab x a ha with rfl | ⟨r, rfl, r1, r2, r3, r4, r5, r6⟩
      · exact absurd ha h1
      · rcases k.lab x b hb with rfl | ⟨s, rfl, s1, s2, s3, s4, s5, s6⟩
        · exact absurd hb h2
        · have e1 := (h.con s3 (h.don s s2 s2 s3) s5).2
          have e2 := (k.con r3 (k.don r r2 r2 r3) r5).2
          rw [ha] at e1
          rw [hb] at e2
          have g1 : r ≤ s := by
            rcases h.lab s _ e1.symm with e | ⟨t, e, t1, _⟩
            · omega
            · omega
          have g2 : s ≤ r := by
            rcases k.lab r _ e2.symm with e | ⟨t, e, t1, _⟩
            · omega
            · omega
          rw [ha, hb, Nat.le_antisymm g1 g2]
    · have e1 : a = -1 := (h.lab x a ha).elim id (fun ⟨r, _, _, _, _, h5, _⟩ => absurd h5 hk)
      have e2 : b = -1 := (k.lab x b hb).elim id (fun ⟨r, _, _, _, _, h5, _⟩ => absurd h5 hk)
      rw [ha, hb, e1, e2]
  · rw [List.getElem?_eq_none (by rw [h.len]; exact hx), List.getElem?_eq_none (by rw [k.len]; exact hx)]
def cnt (p : List Int) : Nat := p.count (-1)
def Next (G : Gr) (u k : Nat) (x y : Nat) : Prop := x = u ∧ y ∈ (G.nb u).drop k
end Go.Proofs.YthbojpaghbbnnaaDoor
namespace Go.Proofs.YthbojpaghbbnnaaDoor
open Go.RowKit Go.WideMaps Go.Maps
set_option linter.unusedVariables false
set_option linter.unusedSimpArgs false
abbrev kK (keep : List Bool) : Nat → Bool := fun x => keep.getD x false
abbrev OI (w : World) (base : Nat) (v : Value) (xs : List Int) : Prop := Own1 w base 3 (Value.int .i64) v xs
end Go.Proofs.YthbojpaghbbnnaaDoor
namespace Go.Proofs.YthbojpaghbbnnaaDoor.Z
open Go Go.RowKit
set_option linter.unusedVariables false
set_option linter.unusedSimpArgs false
def rho : Obs := ⟨fun n => match n with
  | 0 => fun w v G => ∃ lo hi, PG w lo hi v G
  | 3 => fun w _ _ => Kw w
  | _ => fun _ _ _ => False, fun _ => False⟩
theorem IRd.npi {ρ : Obs} {V : Nat → Prop} {U : Nat → Prop} {w : World} {t : T} {v : Value} {x : t.den} (hn : t.noptr = true) (h : IRd (ρ.on V) U w t v x) : IRd ρ U w t v x := IRd.np (ρ := ρ.on V) (ρ' := ρ) rfl hn h
theorem IRd.npo {ρ : Obs} {V : Nat → Prop} {U : Nat → Prop} {w : World} {t : T} {v : Value} {x : t.den} (hn : t.noptr = true) (h : IRd ρ U w t v x) : IRd (ρ.on V) U w t v x := IRd.np (ρ := ρ) (ρ' := ρ.on V) rfl hn h
theorem tr0 {U : Nat → Prop} {hd : Nat → Value} (w : World) : Tr (Us U 0 hd) w U w := Tr.of (V := fun _ => False) (Ag.refl _ _) (fun _ _ h => h.elim) (fun _ _ h => .inl h)
theorem tr0' {U : Nat → Prop} {hd : Nat → Value} (w : World) : Tr U w (Us U 0 hd) w := Tr.of (V := fun _ => False) (Ag.refl _ _) (fun _ _ h => h.elim) (fun _ _ h => h.elim id (fun ⟨i, hi, _⟩ => absurd hi (Nat.not_lt_zero i)))
theorem apart0 (hd : Nat → Value) : Apart 0 hd := fun i _ hi => absurd hi (Nat.not_lt_zero i)
section
variable {ρ : Obs} {P : Program} {f : FuncId}
def Res1 (ρ : Obs) (U : Nat → Prop) (w : World) (r : T) (y : r.den) (e : Ending) (w' : World) : Prop := Below w.heap.size w w' ∧ ∃ u, e = .returned u ∧ IRd ρ U w' r u y
def Res2 (ρ : Obs) (U : Nat → Prop) (w : World) (r s : T) (y : r.den) (z : s.den) (e : Ending) (w' : World) : Prop := Below w.heap.size w w' ∧ ∃ u v, e = .returned (.tuple #[u, v]) ∧ IRd ρ U w' r u y ∧ IRd ρ U w' s v z
theorem sound11 {fr : Bool} {t0 r0 : T} {pre : t0.den → Bool} {fn : t0.den → r0.den × Unit} (h : ∀ x0, pre x0 = true → ∀ w U U' v0, (∀ b, U' b → b < w.heap.size) → IRd ρ U w t0 v0 x0 → Calls P f #[v0] w (Res1 ρ U' w r0 (fn x0).1)) (nt0 : t0.noptr = true := by rfl) (nr0 : r0.noptr = true := by rfl) :
    Sound P ρ f ⟨[.val t0], [.val r0], fun d => match d with | (x0, _) => pre x0, fun d => match d with | (x0, _) => fn x0, fr⟩ := by
  intro d hp w U0 U1 V hd0 vs hu hu1 hfr hap hK ha
  obtain ⟨x0, _⟩ := d
  match vs, ha with
  | [v0], ⟨h0, _⟩ =>
    refine (h x0 hp w U0 U1 v0 (fun b hb => (hu1 b hb).1) (IRd.npi nt0 (h0.tr (tr0 w)))).mono ?_
    rintro e w' ⟨hb, u, rfl, hr⟩
    exact ⟨[u], hd0, rfl, Ag.of_below hb _, fun _ hi => absurd hi (Nat.not_lt_zero _), fun _ hi => absurd hi (Nat.not_lt_zero _), apart0 _, trivial, (IRd.npo nr0 hr).tr (tr0' w'), trivial⟩
theorem sound21 {fr : Bool} {t0 t1 r0 : T} {pre : t0.den → t1.den → Bool} {fn : t0.den → t1.den → r0.den × Unit} (h : ∀ x0 x1, pre x0 x1 = true → ∀ w U U' v0 v1, (∀ b, U' b → b < w.heap.size) → IRd ρ U w t0 v0 x0 → IRd ρ U w t1 v1 x1 → Calls P f #[v0, v1] w (Res1 ρ U' w r0 (fn x0 x1).1)) (nt0 : t0.noptr = true := by rfl) (nt1 : t1.noptr = true := by rfl) (nr0 : r0.noptr = true := by rfl) :
    Sound P ρ f ⟨[.val t0, .val t1], [.val r0], fun d => match d with | (x0, x1, _) => pre x0 x1, fun d => match d with | (x0, x1, _) => fn x0 x1, fr⟩ := by
  intro d hp w U0 U1 V hd0 vs hu hu1 hfr hap hK ha
  obtain ⟨x0, x1, _⟩ := d
  match vs, ha with
  | [v0, v1], ⟨h0, h1, _⟩ =>
    refine (h x0 x1 hp w U0 U1 v0 v1 (fun b hb => (hu1 b hb).1) (IRd.npi nt0 (h0.tr (tr0 w))) (IRd.npi nt1 (h1.tr (tr0 w)))).mono ?_
    rintro e w' ⟨hb, u, rfl, hr⟩
    exact ⟨[u], hd0, rfl, Ag.of_below hb _, fun _ hi => absurd hi (Nat.not_lt_zero _), fun _ hi => absurd hi (Nat.not_lt_zero _), apart0 _, trivial, (IRd.npo nr0 hr).tr (tr0' w'), trivial⟩
theorem sound31 {fr : Bool} {t0 t1 t2 r0 : T} {pre : t0.den → t1.den → t2.den → Bool} {fn : t0.den → t1.den → t2.den → r0.den × Unit} (h : ∀ x0 x1 x2, pre x0 x1 x2 = true → ∀ w U U' v0 v1 v2, (∀ b, U' b → b < w.heap.size) → IRd ρ U w t0 v0 x0 → IRd ρ U w t1 v1 x1 → IRd ρ U w t2 v2 x2 → Calls P f #[v0, v1, v2] w (Res1 ρ U' w r0 (fn x0 x1 x2).1)) (nt0 : t0.noptr = true := by rfl) (nt1 : t1.noptr = true := by rfl) (nt2 : t2.noptr = true := by rfl) (nr0 : r0.noptr = true := by rfl) :
    Sound P ρ f ⟨[.val t0, .val t1, .val t2], [.val r0], fun d => match d with | (x0, x1, x2, _) => pre x0 x1 x2, fun d => match d with | (x0, x1, x2, _) => fn x0 x1 x2, fr⟩ := by
  intro d hp w U0 U1 V hd0 vs hu hu1 hfr hap hK ha
  obtain ⟨x0, x1, x2, _⟩ := d
  match vs, ha with
  | [v0, v1, v2], ⟨h0, h1, h2, _⟩ =>
    refine (h x0 x1 x2 hp w U0 U1 v0 v1 v2 (fun b hb => (hu1 b hb).1) (IRd.npi nt0 (h0.tr (tr0 w))) (IRd.npi nt1 (h1.tr (tr0 w))) (IRd.npi nt2 (h2.tr (tr0 w)))).mono ?_
    rintro e w' ⟨hb, u, rfl, hr⟩
    exact ⟨[u], hd0, rfl, Ag.of_below hb _, fun _ hi => absurd hi (Nat.not_lt_zero _), fun _ hi => absurd hi (Nat.not_lt_zero _), apart0 _, trivial, (IRd.npo nr0 hr).tr (tr0' w'), trivial⟩
theorem sound22 {fr : Bool} {t0 t1 r0 r1 : T} {pre : t0.den → t1.den → Bool} {fn : t0.den → t1.den → r0.den × r1.den × Unit} (h : ∀ x0 x1, pre x0 x1 = true → ∀ w U U' v0 v1, (∀ b, U' b → b < w.heap.size) → IRd ρ U w t0 v0 x0 → IRd ρ U w t1 v1 x1 → Calls P f #[v0, v1] w (Res2 ρ U' w r0 r1 (fn x0 x1).1 (fn x0 x1).2.1)) (nt0 : t0.noptr = true := by rfl) (nt1 : t1.noptr = true := by rfl) (nr0 : r0.noptr = true := by rfl) (nr1 : r1.noptr = true := by rfl) :
    Sound P ρ f ⟨[.val t0, .val t1], [.val r0, .val r1], fun d => match d with | (x0, x1, _) => pre x0 x1, fun d => match d with | (x0, x1, _) => fn x0 x1, fr⟩ := by
  intro d hp w U0 U1 V hd0 vs hu hu1 hfr hap hK ha
  obtain ⟨x0, x1, _⟩ := d
  match vs, ha with
  | [v0, v1], ⟨h0, h1, _⟩ =>
    refine (h x0 x1 hp w U0 U1 v0 v1 (fun b hb => (hu1 b hb).1) (IRd.npi nt0 (h0.tr (tr0 w))) (IRd.npi nt1 (h1.tr (tr0 w)))).mono ?_
    rintro e w' ⟨hb, u, v, rfl, hr, hs⟩
    exact ⟨[u, v], hd0, rfl, Ag.of_below hb _, fun _ hi => absurd hi (Nat.not_lt_zero _), fun _ hi => absurd hi (Nat.not_lt_zero _), apart0 _, trivial, (IRd.npo nr0 hr).tr (tr0' w'), (IRd.npo nr1 hs).tr (tr0' w'), trivial⟩
end
section
variable {ρ : Obs} {U : Nat → Prop} {w : World}
theorem cell_lt {a : Addr} {v : Value} (h : w.cell? a = some v) : a.block < w.heap.size := by
  unfold World.cell? at h
  split at h
  · rename_i hb
    exact (Array.getElem?_eq_some_iff.1 hb).1
  · cases h
theorem els_flat {α : Type} {Q : List Value → α → Prop} {enc : α → List Value} (he : ∀ c x, Q c x → c = enc x) : ∀ {ds : List Value} {xs : List α}, Els Q ds xs → ds = xs.flatMap enc
  | _, [], h => h
  | _, x :: xs, ⟨c, r, e, hq, hr⟩ => by rw [e, he _ _ hq, els_flat he hr, List.flatMap_cons]
theorem flat_els {α : Type} {Q : List Value → α → Prop} {enc : α → List Value} (he : ∀ x, Q (enc x) x) : ∀ xs : List α, Els Q (xs.flatMap enc) xs
  | [] => rfl
  | x :: xs => ⟨enc x, _, List.flatMap_cons, he x, flat_els he xs⟩
theorem sl_in {t : T} {enc : t.den → List Value} (he : ∀ cs x, ICs ρ U w t cs x → cs = enc x) {v : Value} {xs : List t.den} (h : IRd ρ U w (.list t) v xs) : Sl w 0 w.heap.size t.size v xs.length (xs.flatMap enc) := by
  obtain ⟨cs, rfl, A, c, ds, rfl, h1, h2, h3, h4⟩ := h
  have hlen : ds.length = xs.length * t.size := Els.length (fun c x q => ICs.length q) h3
  have hds := els_flat he h3
  subst hds
  refine ⟨Nat.le_refl _, hlen, h1, A, c, rfl, fun hn => ?_⟩
  obtain ⟨b, off, rfl, h5⟩ := h4 hn
  have h6 := h5 w (Ag.refl _ _)
  have hp : 0 < (xs.flatMap enc).length := by rw [hlen]; exact Nat.mul_pos hn (T.size_pos t)
  refine ⟨b, off, rfl, Nat.zero_le _, ?_, fun j hj => h6 j (by rw [hlen]; exact hj)⟩
  have := h6 0 hp
  rw [List.getElem?_eq_getElem hp] at this
  exact cell_lt this
theorem flat_one {α : Type} (f : α → Value) (xs : List α) : xs.flatMap (fun x => [f x]) = xs.map f := by
  induction xs with
  | nil => rfl
  | cons x xs ih => rw [List.flatMap_cons, ih]; rfl
theorem ints_in {v : Value} {xs : List Int} (h : IRd ρ U w (.list I64) v xs) : Ints w 0 w.heap.size v xs := by
  have := sl_in (t := I64) (enc := fun x : Int => [Value.int .i64 x]) (fun _ _ h => h) h
  rw [flat_one] at this
  exact this
theorem bools_in {v : Value} {xs : List Bool} (h : IRd ρ U w (.list .bool) v xs) : Bools w 0 w.heap.size v xs := by
  have := sl_in (t := .bool) (enc := fun x : Bool => [Value.bool x]) (fun _ _ h => h) h
  rw [flat_one] at this
  exact this
theorem ics_pr {cs : List Value} {x : Int × Int} : ICs ρ U w Pr cs x ↔ cs = encP x := by
  constructor
  · rintro ⟨c, d, rfl, rfl, rfl⟩; rfl
  · rintro rfl; exact ⟨[_], [_], rfl, rfl, rfl⟩
theorem prs_in {v : Value} {xs : List (Int × Int)} (h : IRd ρ U w (.list Pr) v xs) : Prs w 0 w.heap.size v xs := sl_in (t := Pr) (enc := encP) (fun _ _ h => ics_pr.1 h) h
abbrev Cg : T := .pair I64 (.pair I64 .bool)
def toC (c : Int × Int × Bool) : Chg := ((c.1, c.2.1), c.2.2)
theorem ics_cg {cs : List Value} {x : Int × Int × Bool} : ICs ρ U w Cg cs x ↔ cs = encC (toC x) := by
  constructor
  · rintro ⟨c, d, rfl, rfl, e, f, rfl, rfl, rfl⟩; rfl
  · rintro rfl; exact ⟨[_], [_, _], rfl, rfl, [_], [_], rfl, rfl, rfl⟩
theorem flat_map' {α β : Type} (f : α → β) (enc : β → List Value) (xs : List α) : xs.flatMap (fun x => enc (f x)) = (xs.map f).flatMap enc := by
  induction xs with
  | nil => rfl
  | cons x xs ih => rw [List.flatMap_cons, ih]; rfl
theorem chs_in {v : Value} {xs : List (Int × Int × Bool)} (h : IRd ρ U w (.list Cg) v xs) : Chs w 0 w.heap.size v (xs.map toC) := by
  have := sl_in (t := Cg) (enc := fun x => encC (toC x)) (fun _ _ h => ics_cg.1 h) h
  rw [flat_map'] at this
  show Sl _ _ _ _ _ _ _
  rw [List.length_map]
  exact this
theorem pg_in {v : Value} {g : Option Gr} (h : IRd rho U w (.obj 0) v g) (hg : g.isSome = true) : ∃ G lo hi, g = some G ∧ PG w lo hi v G := by
  obtain ⟨cs, rfl, v, rfl, h⟩ := h
  cases g with
  | none => cases hg
  | some G =>
    obtain ⟨_, h2⟩ := h
    obtain ⟨lo, hi, h3⟩ := h2 w (Ag.refl _ _)
    exact ⟨G, lo, hi, rfl, h3⟩
theorem same_ag {lo hi : Nat} {w' : World} (h : Ag U w w') (hU : ∀ b, U b → b < lo) (hh : hi ≤ w.heap.size) : Same lo hi w w' := ⟨h.size, fun b h1 h2 => h.block b (by omega) (fun hb => by have := hU b hb; omega)⟩
theorem pg_out {v : Value} {G : Gr} {lo hi : Nat} (h : PG w lo hi v G) (hU : ∀ b, U b → b < lo) : IRd rho U w (.obj 0) v (some G) := by
  obtain ⟨_, _, b, _, _, _, _, rfl, _⟩ := id h
  exact ⟨[_], rfl, _, rfl, ⟨_, rfl⟩, fun w' ha => ⟨lo, hi, h.frame (same_ag ha hU h.2.1)⟩⟩
theorem nil_out {n : Nat} : IRd ρ U w (.obj n) (.pointer none) none := ⟨[_], rfl, _, rfl, rfl⟩
theorem int_out {k : IntKind} (x : Int) : IRd ρ U w (.int k) (.int k x) x := ⟨[_], rfl, rfl⟩
theorem bool_out (x : Bool) : IRd ρ U w .bool (.bool x) x := ⟨[_], rfl, rfl⟩
/-- A fresh row as a value. -/
theorem row_out {t : T} {e : TypeId} {base n : Nat} {v : Value} {cs : List Value} {xs : List t.den} (h : w.ownsRow base e t.size v n cs) (hn : n = xs.length) (he : Els (ICs ρ U w t) cs xs) (hU : ∀ b, U b → b < base) : IRd ρ U w (.list t) v xs := by
  subst hn
  have hs := sl_own h
  obtain ⟨_, h1, h2, A, c, rfl, h3⟩ := hs
  refine ⟨[_], rfl, A, c, cs, rfl, h2, ?_, he, fun hp => ?_⟩
  · rcases h.2 with ⟨e1, _⟩ | ⟨g, cap, cur, e1, _, _, h5, _⟩
    · injection e1 with e1 e2 e3
      omega
    · injection e1 with e1 e2 e3
      omega
  · obtain ⟨b, off, rfl, h4, h5, h6⟩ := h3 hp
    refine ⟨b, off, rfl, fun w' ha j hj => ?_⟩
    rw [World.cell?_of_block (ha.block b h5 (fun hb => by have := hU b hb; omega))]
    exact h6 j (by omega)
theorem row_flat {t : T} {enc : t.den → List Value} (he : ∀ x, ICs ρ U w t (enc x) x) {e : TypeId} {base n : Nat} {v : Value} {xs : List t.den} (h : w.ownsRow base e t.size v n (xs.flatMap enc)) (hn : n = xs.length) (hU : ∀ b, U b → b < base) : IRd ρ U w (.list t) v xs :=
  row_out h hn (flat_els he xs) hU
theorem ints_out {base n : Nat} {v : Value} {xs : List Int} (h : w.ownsRow base 3 1 v n (xs.map (Value.int .i64))) (hn : n = xs.length) (hU : ∀ b, U b → b < base) : IRd ρ U w (.list I64) v xs := by
  rw [← flat_one] at h
  exact row_flat (t := I64) (enc := fun x : Int => [Value.int .i64 x]) (fun _ => rfl) h hn hU
theorem prs_out {base n : Nat} {v : Value} {xs : List (Int × Int)} (h : w.ownsRow base 84 2 v n (xs.flatMap encP)) (hn : n = xs.length) (hU : ∀ b, U b → b < base) : IRd ρ U w (.list Pr) v xs :=
  row_flat (t := Pr) (enc := encP) (fun _ => ics_pr.2 rfl) h hn hU
theorem lists_out {base : Nat} {v : Value} {L : List (Int × List Int)} (h : OwnL w base v L) (hU : ∀ b, U b → b < base) : IRd ρ U w (.list (.pair I64 (.list I64))) v L := by
  obtain ⟨vs, h1, h2, h3⟩ := h
  refine row_out (t := .pair I64 (.list I64)) h2 rfl ?_ hU
  clear h2
  induction L generalizing vs with
  | nil => cases vs with
    | nil => rfl
    | cons x vs => simp at h1
  | cons p L ih => cases vs with
    | nil => simp at h1
    | cons x vs =>
      refine ⟨[.int .i64 p.1, x], mixL L vs, rfl, ?_, ih vs (by simpa using h1) (fun i p x a b => h3 (i + 1) p x (by simpa using a) (by simpa using b))⟩
      have h4 := h3 0 p x rfl rfl
      obtain ⟨cs, e, h5⟩ := ints_out (ρ := ρ) (U := U) h4 rfl hU
      obtain ⟨A, c, ds, rfl, h6⟩ := h5
      exact ⟨[_], [x], rfl, rfl, A, c, ds, by rw [e]; rfl, h6⟩
end
def gr (g : Option Gr) : Gr := g.getD ⟨0, fun _ _ => false⟩
def wf (x : Int) : Bool := decide (-9223372036854775808 ≤ x) && decide (x ≤ 9223372036854775807)
namespace N
abbrev ps : List PM := [.val (.obj 0)]
abbrev rs : List PM := [.val I64]
noncomputable def pre (g : Option Gr) : Bool := g.isSome
noncomputable def fn (g : Option Gr) : Int × Unit := (((gr g).n : Int), ())
noncomputable def sig : Sig := ⟨ps, rs, fun d => match d with
  | (g, _) => pre g, fun d => match d with
  | (g, _) => fn g, true⟩
theorem sound : Sound Tryd.prog rho 30 sig := sound11 (fun (g : Option Gr) hp w U U' v0 hU h0 => by
  obtain ⟨G, lo, hi, rfl, hG⟩ := pg_in h0 hp
  refine (N_any w hG).mono ?_
  rintro e w' ⟨rfl, rfl⟩
  exact ⟨Below.refl _ _, _, rfl, int_out _⟩)
theorem enters : Enters Tryd.prog 30 := enters_of (fn := Tryd.f30) (by kernel_rfl) (by kernel_rfl) (by kernel_rfl)
theorem okR : Enters Tryd.prog 30 ∧ Sound Tryd.prog rho 30 sig := ⟨enters, sound⟩
end N
open Classical in
noncomputable def parts (G : Gr) (k : List Bool) : List Int := if h : ∃ p, Parted G (kK k) p then Classical.choose h else []
def prsOk (n : Int) (l : List (Int × Int)) : Bool := l.all (fun p => okP n.toNat p)
def inN (n : Int) : Bool := decide (0 ≤ n) && decide (n ≤ 16777216)
namespace Make
abbrev ps : List PM := [.val I64, .val (.list Pr)]
abbrev rs : List PM := [.val (.obj 0), .val I64]
noncomputable def pre (n : Int) (l : List (Int × Int)) : Bool := true
noncomputable def fn (n : Int) (l : List (Int × Int)) : (Option Gr) × Int × Unit := if inN n = true then (if prsOk n l = true then (some (Gr.ofPairs n.toNat l), 0, ()) else (none, 42, ())) else (none, 41, ())
noncomputable def sig : Sig := ⟨ps, rs, fun d => match d with
  | (n, l, _) => pre n l, fun d => match d with
  | (n, l, _) => fn n l, true⟩
theorem sound : Sound Tryd.prog rho 51 sig := sound22 (fun (n : Int) (l : List (Int × Int)) hp w U U' v0 v1 hU h0 h1 => by
  obtain rfl := h0.int
  by_cases hn : inN n = true
  · have hn' : 0 ≤ n ∧ n ≤ 16777216 := by simpa [inN] using hn
    obtain ⟨m, rfl⟩ := Int.eq_ofNat_of_zero_le hn'.1
    refine (Make_in w m (by omega) (prs_in h1)).mono ?_
    rintro e w' ⟨hb, hx, hy⟩
    by_cases hc : prsOk (m : Int) l = true
    · obtain ⟨x, rfl, hx2⟩ := hx (fun p h => List.all_eq_true.1 hc p h)
      rw [fn, if_pos hn, if_pos hc]
      exact ⟨hb, _, _, rfl, pg_out hx2 hU, int_out 0⟩
    · obtain rfl := hy (by
        simp only [prsOk, List.all_eq_true, Classical.not_forall] at hc
        obtain ⟨d, hd, hk⟩ := hc
        exact ⟨d, hd, by simpa using hk⟩)
      rw [fn, if_pos hn, if_neg hc]
      exact ⟨hb, _, _, rfl, nil_out, int_out 42⟩
  · refine (Make_out w n v1 (by simp [inN] at hn; omega)).mono ?_
    rintro e w' ⟨rfl, hb⟩
    rw [fn, if_neg hn]
    exact ⟨hb, _, _, rfl, nil_out, int_out 41⟩)
theorem enters : Enters Tryd.prog 51 := enters_of (fn := Tryd.f51) (by kernel_rfl) (by kernel_rfl) (by kernel_rfl)
theorem okR : Enters Tryd.prog 51 ∧ Sound Tryd.prog rho 51 sig := ⟨enters, sound⟩
end Make
end Go.Proofs.YthbojpaghbbnnaaDoor.Z
namespace Go.Proofs.YthbojpaghbbnnaaDoor.Kx
open Go Go.ChangeShapes Go.WideShapes Go.ChangeAt Go.RowKit
set_option linter.unusedVariables false
def laidT : List (String × DataW Unit) := [("math/bits.deBruijn64tab", Rows.laid_math_bits_deBruijn64tab)]
theorem gTab : Tryd.prog.globalNamed "math/bits.deBruijn64tab" = some 0 := by kernel_rfl
theorem tTab : (Tryd.prog.globals[0]?).map (·.type) = some 118 := by kernel_rfl
theorem door_met (os : Os) (args : Array Value) : laidMetH Tryd.prog laidT ((World.doorLaid Tryd.prog 200 os).forCall (fun _ _ => 0) ⟨#[], args, []⟩).memory :=
  laidMetH_of_parts3 (fuel := 8) (laidMet_of_run' 8 (by kernel_rfl) (by kernel_rfl)) (by kernel_rfl) (by kernel_rfl)
theorem tab_data : ∃ l : List (DataW Unit), (Rows.laid_math_bits_deBruijn64tab : DataW Unit) = .agg l ∧ l.length = 64 ∧ ∀ j, j < 64 → l[j]? = some (.lit (.int .u8 ((Lib.deBruijn64tab.getD j 0 : Nat) : Int))) := by
  unfold Rows.laid_math_bits_deBruijn64tab
  refine ⟨_, rfl, rfl, ?_⟩
  intro j hj
  match j, hj with
  | j, hj =>
    have : ∀ j, j < 64 → Lib.deBruijn64tab.getD j 0 < 256 := by decide +kernel
    revert j
    intro j hj
    rcases j with _ | _ | _ | _ | _ | _ | _ | _ | _ | _ | _ | _ | _ | _ | _ | _ | _ | _ | _ | _ | _ | _ | _ | _ | _ | _ | _ | _ | _ | _ | _ | _ | _ | _ | _ | _ | _ | _ | _ | _ | _ | _ | _ | _ | _ | _ | _ | _ | _ | _ | _ | _ | _ | _ | _ | _ | _ | _ | _ | _ | _ | _ | _ | _ | j
    all_goals first | rfl | omega
theorem kw_of_laid {W : World} (h : laidMetH Tryd.prog laidT W) : Z.Kw W := by
  rw [MakeChecks.laidMetH_plain _ _ _ (by kernel_rfl)] at h
  obtain ⟨ps, ⟨g0, t0, cs0, f0, p0, q0, hg0, ht0, hv0, hd0, _, _⟩, _, _⟩ := h
  obtain rfl := Option.some.inj (gTab.symm.trans hg0)
  obtain rfl := Option.some.inj (tTab.symm.trans ht0)
  obtain ⟨xs, m, rfl, hx, hlen, hn, hel⟩ := DataW.trod_array Tryd.underlying118 hd0
  obtain ⟨l, hl, hll, hlj⟩ := tab_data
  rw [hl] at hx
  simp only [Prod.mk.injEq, DataW.agg.injEq] at hx
  obtain ⟨hx, _⟩ := hx
  have c1 : Tryd.prog.cellsOf 5 = 1 := by kernel_rfl
  intro j hj
  have hj : j < 64 := hj
  have h0 := hel j hj
  rw [c1] at h0
  have hxj : j < xs.length := by omega
  rw [List.getElem?_eq_getElem hxj] at h0
  obtain ⟨k, e1, e2, _⟩ := DataW.trod_int Tryd.underlying5 h0
  have e3 := hlj j hj
  rw [hx, List.getElem?_map, List.getElem?_eq_getElem hxj, e2] at e3
  simp only [Option.map_some, Option.some.injEq, DataW.lit.injEq, Lit.int.injEq, true_and] at e3
  subst e3
  have e4 := World.var?_cell hg0 hv0 j
  rw [e4]
  have e5 : (List.take 1 (List.drop (j * 1) cs0.toList))[0]? = some (Value.int .u8 ((Lib.deBruijn64tab.getD j 0 : Nat) : Int)) := by rw [e1]; rfl
  rw [List.getElem?_take, if_pos (by decide), List.getElem?_drop, Nat.mul_one, Nat.add_zero, Array.getElem?_toList] at e5
  exact e5
theorem kok_of_laid {W : World} (h : laidMetH Tryd.prog laidT W) : Z.KOk Z.rho (fun _ => False) W := ⟨fun w' q => by
  have k := kw_of_laid h
  show Z.Kw w'
  intro j hj
  have e := k j hj
  rw [← e]
  exact World.cell?_of_block (w := W) (a := ⟨0, j, none⟩) (q.block 0 (Z.cell_lt e) (fun x => x)), fun _ h => h.elim⟩
end Go.Proofs.YthbojpaghbbnnaaDoor.Kx
namespace Go.Proofs.YthbojpaghbbnnaaDoor
open Go.RowKit
set_option linter.unusedVariables false
set_option linter.unusedSimpArgs false
theorem take_eq_step {α : Type} {xs ys : List α} {k : Nat} {x y : α} (h : xs.take k = ys.take k) (hx : xs[k]? = some x) (hy : ys[k]? = some y) (e : x = y) : xs.take (k + 1) = ys.take (k + 1) := by
  rw [take_snoc' hx, take_snoc' hy, h, e]
theorem ne_of_get {α : Type} {xs ys : List α} {k : Nat} {x y : α} (hx : xs[k]? = some x) (hy : ys[k]? = some y) (e : x ≠ y) : xs ≠ ys := by
  rintro rfl
  rw [hx] at hy
  injection hy with hy
  exact e hy
theorem eq_of_take {α : Type} {xs ys : List α} {k : Nat} (h : xs.take k = ys.take k) (hx : xs.length ≤ k) (hy : ys.length ≤ k) : xs = ys := by
  rwa [List.take_of_length_le hx, List.take_of_length_le hy] at h
set_option maxRecDepth 100000 in
set_option maxHeartbeats 2000000 in
theorem SameInts_any (w : World) {lo hi lo' hi' : Nat} {a b : Value} {xs ys : List Int} (ha : Ints w lo hi a xs) (hb : Ints w lo' hi' b ys) :
    Calls Tryd.prog 21 #[a, b] w fun e w' => e = .returned (.bool (decide (xs = ys))) ∧ Below w.heap.size w w' := by
  obtain ⟨hl1, A, c, rfl⟩ := ha.form
  obtain ⟨hl2, B, d, rfl⟩ := hb.form
  by_cases hl : xs.length = ys.length
  · have Hl := Lib.hid hl
    have hl3 : xs.length ≤ ys.length := by omega
    have hne : (((xs.length : Nat) : Int) != (ys.length : Int)) = false := by simp [hl]
    clear hl
    go_enter Tryd.func21, Tryd.ntmps21
    go_wp2
    go_loopw [5] (fun i wr => ∃ k : Nat, k ≤ xs.length ∧ i = .int .i64 k ∧ Hid (∃ nq, wr = w.drewN nq) ∧ Hid (xs.take k = ys.take k)) (fun i _ => xs.length - (intOf i).toNat)
    case atStart => exact ⟨0, by omega, rfl, ⟨0, rfl⟩, by simp [Hid]⟩
    case round =>
      obtain ⟨k, hk, rfl, HQ, HJ⟩ := hrel
      obtain ⟨nq, rfl⟩ := HQ.out
      clear HQ
      by_cases hlt : k < xs.length
      · obtain ⟨b, off, x, rfl, _, _, g1, X⟩ := ha.get k hlt
        obtain ⟨b', off', y, rfl, _, _, g2, Y⟩ := hb.get k (by omega)
        by_cases he0 : x = y
        · have hq0 : (x == y) = true := by simp [he0]
          have E0 := Lib.hid he0
          clear he0
          have hst := take_eq_step HJ.out X.out Y.out (by rw [E0.out])
          have HJ' := Lib.hid hst
          clear hst X Y
          go_wp2
          go_quiet (fail)
          go_wp2
          go_roundw
          case rel => exact ⟨k + 1, by omega, by go_num, ⟨_, rfl⟩, HJ'⟩
          case measure => simp [intOf]; omega
        · have hq0 : (x == y) = false := by simp [he0]
          have hd : decide (xs = ys) = false := decide_eq_false (ne_of_get X.out Y.out he0)
          have hd' := Lib.hid hd
          clear hd he0 X Y
          go_wp2
          go_quiet (fail)
          go_wp2
          go_ret
          exact ⟨by rw [hd'.out]; rfl, below_drewN (below_drewN (Below.refl _ _) _) _⟩
      · have hd : decide (xs = ys) = true := decide_eq_true (eq_of_take HJ.out (by omega) (by have := Hl.out; omega))
        have hd' := Lib.hid hd
        clear hd
        go_wp2
        go_ret
        exact ⟨by rw [hd'.out]; rfl, below_drewN (Below.refl _ _) _⟩
  · have hne : (((xs.length : Nat) : Int) != (ys.length : Int)) = true := by simp; omega
    have hd : decide (xs = ys) = false := decide_eq_false (by intro h; exact hl (by rw [h]))
    have hd' := Lib.hid hd
    clear hd hl
    go_enter Tryd.func21, Tryd.ntmps21
    go_wp2
    go_ret
    exact ⟨by rw [hd'.out]; rfl, Below.refl _ _⟩
set_option maxRecDepth 100000 in
set_option maxHeartbeats 2000000 in
theorem RInts_any (w : World) {lo hi : Nat} {a : Value} {xs : List Int} (ha : Ints w lo hi a xs) (hx : xs.length * 8 ≤ 140737488351232) :
    Calls Tryd.prog 24 #[a] w fun e w' => Below w.heap.size w w' ∧ ∃ v, e = .returned v ∧ Own1 w' w.heap.size 3 (Value.int .i64) v xs := by
  obtain ⟨hl1, A, c, rfl⟩ := ha.form
  have HX := Lib.hid hx
  clear hx
  go_enter Tryd.func24, Tryd.ntmps24
  go_wp2_with (at_make; refine mk_cap (W := w) w.heap.size rfl _ _ 22 3 _ 1 8 rfl Tryd.underlying22 infoInt (by decide) _ xs.length rfl rfl rfl (by have := HX.out; omega) (Nat.le_refl _) ?_; intro w1 hown hgr; have hb := (Below.refl w.heap.size w).grown hgr (Nat.le_refl _) (by simp); clear hgr)
  go_loopw [3, 4] (fun v i wr => ∃ k : Nat, k ≤ xs.length ∧ i = .int .i64 k ∧ Below w.heap.size w wr ∧ wr.ownsRow w.heap.size 3 1 v k ((xs.take k).map (Value.int .i64))) (fun _ i _ => xs.length - (intOf i).toNat)
  case atStart => exact ⟨0, by omega, rfl, hb, hown⟩
  case round =>
    clear hb hown
    obtain ⟨k, hk, rfl, hb, hown⟩ := hrel
    by_cases hlt : k < xs.length
    · obtain ⟨b, off, x, rfl, _, _, g1, X⟩ := (ha.at_ hb).get k hlt
      go_wp2_with (at_builtin; refine app_one w.heap.size rfl (.tmp 14) (.tmp 19) 22 3 _ 1 8 rfl Tryd.underlying22 infoInt rfl (by decide) (by decide) _ k _ #[.int .i64 x] rfl rfl rfl (by simp [Value.oneCell']) hown hb.size (by have := HX.out; omega) ?_; intro v1 w1 hown1 hg1 _; have hb1 := below_app hb hown hg1 (Nat.le_refl _); clear hg1)
      go_roundw
      case rel => exact ⟨k + 1, by omega, by go_num, hb1, by rw [take_snoc' X.out, List.map_append]; exact hown1⟩
      case measure => simp [intOf]; omega
    · go_wp2
      go_ret
      obtain rfl : k = xs.length := by omega
      rw [List.take_length] at hown
      exact ⟨hb, _, rfl, hown⟩
set_option maxRecDepth 100000 in
set_option maxHeartbeats 2000000 in
theorem SameBools_any (w : World) {lo hi lo' hi' : Nat} {a b : Value} {xs ys : List Bool} (ha : Bools w lo hi a xs) (hb : Bools w lo' hi' b ys) :
    Calls Tryd.prog 36 #[a, b] w fun e w' => e = .returned (.bool (decide (xs = ys))) ∧ Below w.heap.size w w' := by
  obtain ⟨hl1, A, c, rfl⟩ := ha.form
  obtain ⟨hl2, B, d, rfl⟩ := hb.form
  by_cases hl : xs.length = ys.length
  · have Hl := Lib.hid hl
    have hl3 : xs.length ≤ ys.length := by omega
    have hne : (((xs.length : Nat) : Int) != (ys.length : Int)) = false := by simp [hl]
    clear hl
    go_enter Tryd.func36, Tryd.ntmps36
    go_wp2
    go_loopw [5] (fun i wr => ∃ k : Nat, k ≤ xs.length ∧ i = .int .i64 k ∧ Hid (∃ nq, wr = w.drewN nq) ∧ Hid (xs.take k = ys.take k)) (fun i _ => xs.length - (intOf i).toNat)
    case atStart => exact ⟨0, by omega, rfl, ⟨0, rfl⟩, by simp [Hid]⟩
    case round =>
      obtain ⟨k, hk, rfl, HQ, HJ⟩ := hrel
      obtain ⟨nq, rfl⟩ := HQ.out
      clear HQ
      by_cases hlt : k < xs.length
      · obtain ⟨b, off, x, rfl, _, _, g1, X⟩ := ha.get k hlt
        obtain ⟨b', off', y, rfl, _, _, g2, Y⟩ := hb.get k (by omega)
        by_cases he0 : x = y
        · have hq0 : (x == y) = true := by simp [he0]
          have E0 := Lib.hid he0
          clear he0
          have hst := take_eq_step HJ.out X.out Y.out (by rw [E0.out])
          have HJ' := Lib.hid hst
          clear hst X Y
          go_wp2
          go_quiet (fail)
          go_wp2
          go_roundw
          case rel => exact ⟨k + 1, by omega, by go_num, ⟨_, rfl⟩, HJ'⟩
          case measure => simp [intOf]; omega
        · have hq0 : (x == y) = false := by simp [he0]
          have hd : decide (xs = ys) = false := decide_eq_false (ne_of_get X.out Y.out he0)
          have hd' := Lib.hid hd
          clear hd he0 X Y
          go_wp2
          go_quiet (fail)
          go_wp2
          go_ret
          exact ⟨by rw [hd'.out]; rfl, below_drewN (below_drewN (Below.refl _ _) _) _⟩
      · have hd : decide (xs = ys) = true := decide_eq_true (eq_of_take HJ.out (by omega) (by have := Hl.out; omega))
        have hd' := Lib.hid hd
        clear hd
        go_wp2
        go_ret
        exact ⟨by rw [hd'.out]; rfl, below_drewN (Below.refl _ _) _⟩
  · have hne : (((xs.length : Nat) : Int) != (ys.length : Int)) = true := by simp; omega
    have hd : decide (xs = ys) = false := decide_eq_false (by intro h; exact hl (by rw [h]))
    have hd' := Lib.hid hd
    clear hd hl
    go_enter Tryd.func36, Tryd.ntmps36
    go_wp2
    go_ret
    exact ⟨by rw [hd'.out]; rfl, Below.refl _ _⟩
set_option maxRecDepth 100000 in
set_option maxHeartbeats 2000000 in
theorem RBools_any (w : World) {lo hi : Nat} {a : Value} {xs : List Bool} (ha : Bools w lo hi a xs) (hx : xs.length * 1 ≤ 140737488351232) :
    Calls Tryd.prog 42 #[a] w fun e w' => Below w.heap.size w w' ∧ ∃ v, e = .returned v ∧ Own1 w' w.heap.size 4 (Value.bool) v xs := by
  obtain ⟨hl1, A, c, rfl⟩ := ha.form
  have HX := Lib.hid hx
  clear hx
  go_enter Tryd.func42, Tryd.ntmps42
  go_wp2_with (at_make; refine mk_cap (W := w) w.heap.size rfl _ _ 23 4 _ 1 1 rfl Tryd.underlying23 infoBool (by decide) _ xs.length rfl rfl rfl (by have := HX.out; omega) (Nat.le_refl _) ?_; intro w1 hown hgr; have hb := (Below.refl w.heap.size w).grown hgr (Nat.le_refl _) (by simp); clear hgr)
  go_loopw [3, 4] (fun v i wr => ∃ k : Nat, k ≤ xs.length ∧ i = .int .i64 k ∧ Below w.heap.size w wr ∧ wr.ownsRow w.heap.size 4 1 v k ((xs.take k).map (Value.bool))) (fun _ i _ => xs.length - (intOf i).toNat)
  case atStart => exact ⟨0, by omega, rfl, hb, hown⟩
  case round =>
    clear hb hown
    obtain ⟨k, hk, rfl, hb, hown⟩ := hrel
    by_cases hlt : k < xs.length
    · obtain ⟨b, off, x, rfl, _, _, g1, X⟩ := (ha.at_ hb).get k hlt
      go_wp2_with (at_builtin; refine app_one w.heap.size rfl (.tmp 14) (.tmp 19) 23 4 _ 1 1 rfl Tryd.underlying23 infoBool rfl (by decide) (by decide) _ k _ #[.bool x] rfl rfl rfl (by simp [Value.oneCell']) hown hb.size (by have := HX.out; omega) ?_; intro v1 w1 hown1 hg1 _; have hb1 := below_app hb hown hg1 (Nat.le_refl _); clear hg1)
      go_roundw
      case rel => exact ⟨k + 1, by omega, by go_num, hb1, by rw [take_snoc' X.out, List.map_append]; exact hown1⟩
      case measure => simp [intOf]; omega
    · go_wp2
      go_ret
      obtain rfl : k = xs.length := by omega
      rw [List.take_length] at hown
      exact ⟨hb, _, rfl, hown⟩
end Go.Proofs.YthbojpaghbbnnaaDoor
namespace Go.Proofs.YthbojpaghbbnnaaDoor
open Go.RowKit
set_option linter.unusedVariables false
set_option linter.unusedSimpArgs false
theorem bl (w : World) (o : Obj) : Below w.heap.size w (w.alloc o) := (Below.refl _ _).alloc (Nat.le_refl _) o
theorem PG.ptr {w : World} {lo hi : Nat} {g : Value} {G : Gr} (h : PG w lo hi g G) : ∃ b, g = .pointer (some ⟨b, 0, none⟩) := by
  obtain ⟨b, _, _, _, _, e, _⟩ := h.open_
  exact ⟨b, e⟩
end Go.Proofs.YthbojpaghbbnnaaDoor
namespace Go.Proofs.YthbojpaghbbnnaaDoor.Z
open Go Go.RowKit
set_option linter.unusedVariables false
set_option linter.unusedSimpArgs false
section
variable {ρ : Obs} {P : Program} {f : FuncId}
theorem apart1 (v : Value) : Apart 1 (fun _ => v) := fun i j hi hj hne => absurd (show i = j by omega) hne
theorem sound01 {fr : Bool} {r : T} {pre : Bool} {fn : r.den × Unit} (h : pre = true → ∀ w U, (∀ b, U b → b < w.heap.size) → Calls P f #[] w (Res1 ρ U w r fn.1)) (nr : r.noptr = true := by rfl) : Sound P ρ f ⟨[], [.val r], fun d => match d with | _ => pre, fun d => match d with | _ => fn, fr⟩ := by
  intro d hp w U0 U1 V hd0 vs hu hu1 hfr hap hK ha
  match vs, ha with
  | [], _ =>
    refine (h hp w U1 (fun b hb => (hu1 b hb).1)).mono ?_
    rintro e w' ⟨hb, u, rfl, hr⟩
    exact ⟨[u], hd0, rfl, Ag.of_below hb _, fun _ hi => absurd hi (Nat.not_lt_zero _), fun _ hi => absurd hi (Nat.not_lt_zero _), apart0 _, trivial, (IRd.npo nr hr).tr (tr0' w'), trivial⟩
/-- A copy in new memory, which is the caller's. -/
theorem sound1o {fr : Bool} {t r : T} {e : TypeId} {pre : t.den → Bool} {fn : t.den → List r.den × Unit} (enc : r.den → List Value) (he : ∀ U w x, ICs ρ U w r (enc x) x)
    (h : ∀ x, pre x = true → ∀ w U v, (∀ b, U b → b < w.heap.size) → IRd ρ U w t v x → Calls P f #[v] w fun e' w' => Below w.heap.size w w' ∧ ∃ u, e' = .returned u ∧ w'.ownsRow w.heap.size e r.size u (fn x).1.length ((fn x).1.flatMap enc)) (nt : t.noptr = true := by rfl) (nr : r.noptr = true := by rfl) :
    Sound P ρ f ⟨[.val t], [.own e r], fun d => match d with | (x, _) => pre x, fun d => match d with | (x, _) => fn x, fr⟩ := by
  intro d hp w U0 U1 V hd0 vs hu hu1 hfr hap hK ha
  obtain ⟨x, _⟩ := d
  match vs, ha with
  | [v], ⟨h1, _⟩ =>
    refine (h x hp w U0 v (fun b hb => (hu b hb).1) (IRd.npi nt (h1.tr (tr0 w)))).mono ?_
    rintro e' w' ⟨hb, u, rfl, hr⟩
    exact ⟨[u], fun _ => u, rfl, Ag.of_below hb _, fun i hi => absurd hi (Nat.not_lt_zero i), fun i hi => absurd hi (Nat.not_lt_zero i), apart1 u, trivial, rfl, ⟨_, hr, flat_els (fun x => ICs.np (ρ := ρ) (ρ' := ρ.on V) rfl nr (he _ _ x)) _⟩, trivial⟩
end
namespace SameIntsH
abbrev ps : List PM := [.val (.list I64), .val (.list I64)]
abbrev rs : List PM := [.val .bool]
noncomputable def pre (a : List Int) (b : List Int) : Bool := true
noncomputable def fn (a : List Int) (b : List Int) : Bool × Unit := (decide (a = b), ())
noncomputable def sig : Sig := ⟨ps, rs, fun d => match d with
  | (a, b, _) => pre a b, fun d => match d with
  | (a, b, _) => fn a b, false⟩
theorem sound : Sound Tryd.prog rho 21 sig := sound21 (fun (a : List Int) (b : List Int) hp w U U' v0 v1 hU h0 h1 => by
  refine (SameInts_any w (ints_in h0) (ints_in h1)).mono ?_
  rintro e w' ⟨rfl, hb⟩
  exact ⟨hb, _, rfl, bool_out _⟩)
theorem enters : Enters Tryd.prog 21 := enters_of (fn := Tryd.f21) (by kernel_rfl) (by kernel_rfl) (by kernel_rfl)
theorem okR : Enters Tryd.prog 21 ∧ Sound Tryd.prog rho 21 sig := ⟨enters, sound⟩
end SameIntsH
namespace SameBools
abbrev ps : List PM := [.val (.list .bool), .val (.list .bool)]
abbrev rs : List PM := [.val .bool]
noncomputable def pre (a : List Bool) (b : List Bool) : Bool := true
noncomputable def fn (a : List Bool) (b : List Bool) : Bool × Unit := (decide (a = b), ())
noncomputable def sig : Sig := ⟨ps, rs, fun d => match d with
  | (a, b, _) => pre a b, fun d => match d with
  | (a, b, _) => fn a b, false⟩
theorem sound : Sound Tryd.prog rho 36 sig := sound21 (fun (a : List Bool) (b : List Bool) hp w U U' v0 v1 hU h0 h1 => by
  refine (SameBools_any w (bools_in h0) (bools_in h1)).mono ?_
  rintro e w' ⟨rfl, hb⟩
  exact ⟨hb, _, rfl, bool_out _⟩)
theorem enters : Enters Tryd.prog 36 := enters_of (fn := Tryd.f36) (by kernel_rfl) (by kernel_rfl) (by kernel_rfl)
theorem okR : Enters Tryd.prog 36 ∧ Sound Tryd.prog rho 36 sig := ⟨enters, sound⟩
end SameBools
namespace IntsO
abbrev ps : List PM := [.val (.list I64)]
abbrev rs : List PM := [.own 3 I64]
noncomputable def pre (a : List Int) : Bool := decide (a.length * 8 ≤ 140737488351232)
noncomputable def fn (a : List Int) : (List Int) × Unit := (a, ())
noncomputable def sig : Sig := ⟨ps, rs, fun d => match d with
  | (a, _) => pre a, fun d => match d with
  | (a, _) => fn a, false⟩
theorem sound : Sound Tryd.prog rho 24 sig := sound1o (fun x : Int => [Value.int .i64 x]) (fun _ _ _ => rfl) (fun a hp w U v hU h0 => by
  refine (RInts_any w (ints_in h0) (of_decide_eq_true hp)).mono ?_
  rintro e w' ⟨hb, u, rfl, hu⟩
  refine ⟨hb, u, rfl, ?_⟩
  rw [flat_one]
  exact hu)
theorem enters : Enters Tryd.prog 24 := enters_of (fn := Tryd.f24) (by kernel_rfl) (by kernel_rfl) (by kernel_rfl)
theorem okR : Enters Tryd.prog 24 ∧ Sound Tryd.prog rho 24 sig := ⟨enters, sound⟩
end IntsO
namespace BoolsO
abbrev ps : List PM := [.val (.list .bool)]
abbrev rs : List PM := [.own 4 .bool]
noncomputable def pre (a : List Bool) : Bool := decide (a.length * 1 ≤ 140737488351232)
noncomputable def fn (a : List Bool) : (List Bool) × Unit := (a, ())
noncomputable def sig : Sig := ⟨ps, rs, fun d => match d with
  | (a, _) => pre a, fun d => match d with
  | (a, _) => fn a, false⟩
theorem sound : Sound Tryd.prog rho 42 sig := sound1o (fun x : Bool => [Value.bool x]) (fun _ _ _ => rfl) (fun a hp w U v hU h0 => by
  refine (RBools_any w (bools_in h0) (of_decide_eq_true hp)).mono ?_
  rintro e w' ⟨hb, u, rfl, hu⟩
  refine ⟨hb, u, rfl, ?_⟩
  rw [flat_one]
  exact hu)
theorem enters : Enters Tryd.prog 42 := enters_of (fn := Tryd.f42) (by kernel_rfl) (by kernel_rfl) (by kernel_rfl)
theorem okR : Enters Tryd.prog 42 ∧ Sound Tryd.prog rho 42 sig := ⟨enters, sound⟩
end BoolsO
end Go.Proofs.YthbojpaghbbnnaaDoor.Z
namespace Go.Proofs.YthbojpaghbbnnaaDoor
open Go.RowKit
set_option linter.unusedVariables false
set_option linter.unusedSimpArgs false
/-- What stands from place h on, added up. -/
def sfx (cs : List Int) (h : Nat) : Int := Hx.sum (cs.drop h)
theorem sfx_step {cs : List Int} {h : Nat} {y : Int} (hy : cs[h]? = some y) : sfx cs h = sfx cs (h + 1) + y := by
  obtain ⟨hlt, e⟩ := List.getElem?_eq_some_iff.1 hy
  unfold sfx
  rw [List.drop_eq_getElem_cons hlt, e]
  simp only [Hx.sum, List.foldr_cons]
  omega
theorem sfx_out {cs : List Int} {h : Nat} (hh : cs.length ≤ h) : sfx cs h = 0 := by
  unfold sfx
  rw [List.drop_eq_nil_of_le hh]
  rfl
def lowOf (cs : List Int) : Nat → Nat
  | 0 => 0
  | h + 1 => if sfx cs (h + 1) ≥ ((h + 1 : Nat) : Int) then h + 1 else lowOf cs h
end Go.Proofs.YthbojpaghbbnnaaDoor
namespace Go.Proofs.YthbojpaghbbnnaaDoor
open Go.RowKit
set_option linter.unusedVariables false
set_option linter.unusedSimpArgs false
theorem count_split {α : Type} (l : List α) (f : α → Nat) (h : Nat) : l.countP (fun x => decide (h ≤ f x)) = l.countP (fun x => decide (h + 1 ≤ f x)) + l.countP (fun x => decide (f x = h)) := by
  induction l with
  | nil => rfl
  | cons x l ih =>
    simp only [List.countP_cons, ih, decide_eq_true_eq]
    by_cases h1 : h + 1 ≤ f x
    · rw [if_pos (show h ≤ f x by omega), if_pos h1, if_neg (show ¬ f x = h by omega)]
      omega
    · by_cases h2 : f x = h
      · rw [if_pos (show h ≤ f x by omega), if_neg h1, if_pos h2]
        omega
      · rw [if_neg (show ¬ h ≤ f x by omega), if_neg h1, if_neg h2]
        omega
theorem sfx_bins (M : Nat) (xs : List Int) : ∀ d h : Nat, h + d = M + 1 → sfx (bins M xs) h = ((xs.countP (fun x => decide (h ≤ clampN M x)) : Nat) : Int)
  | 0, h, e => by
    rw [sfx_out (by rw [bins_len]; omega)]
    have : xs.countP (fun x => decide (h ≤ clampN M x)) = 0 := List.countP_eq_zero.2 (fun x _ => by have := clampN_le M x; simp; omega)
    rw [this]; rfl
  | d + 1, h, e => by
    rw [sfx_step (bins_get M xs h (by omega)), sfx_bins M xs d (h + 1) (by omega), count_split xs (clampN M) h]
    omega
theorem sfx_over {M : Nat} {xs : List Int} {h : Nat} (h0 : 1 ≤ h) (h1 : h ≤ M) : sfx (bins M xs) h = Hx.over xs (h : Int) := by
  rw [sfx_bins M xs (M + 1 - h) h (by omega), Hx.over]
  congr 2
  funext x
  refine decide_eq_decide.2 ?_
  unfold clampN
  omega
theorem lowOf_is (M : Nat) (xs : List Int) : ∀ m : Nat, m ≤ M → Hx.IsH xs (m : Int) (lowOf (bins M xs) m : Nat)
  | 0, _ => ⟨Int.natCast_nonneg _, .inl rfl, Hx.over_nonneg _ _, fun h' a b _ => by omega⟩
  | m + 1, hm => by
    have ih := lowOf_is M xs m (by omega)
    have hs := sfx_over (xs := xs) (h := m + 1) (M := M) (by omega) hm
    unfold lowOf
    split
    · rename_i h
      rw [hs] at h
      exact ⟨Int.natCast_nonneg _, .inr (Int.le_refl _), h, fun _ _ b _ => b⟩
    · rename_i h
      rw [hs] at h
      refine ⟨ih.nonneg, ih.most.imp id (fun k => by omega), ih.holds, fun h' a b c => ?_⟩
      by_cases e : h' = ((m + 1 : Nat) : Int)
      · subst e; exact absurd c h
      · exact ih.best h' a (by omega) c
theorem bins_bound (m : Nat) (xs : List Int) : ∀ x ∈ bins m xs, 0 ≤ x ∧ x ≤ (xs.length : Int) := fun x hx => by
  simp only [bins, List.mem_map] at hx
  obtain ⟨k, _, rfl⟩ := hx
  have := List.countP_le_length (p := fun x => decide (clampN m x = k)) (l := xs)
  omega
end Go.Proofs.YthbojpaghbbnnaaDoor
namespace Go.Proofs.YthbojpaghbbnnaaDoor.Z
open Go Go.RowKit Go.ChangeShapes Go.WideShapes Go.ChangeAt
set_option linter.unusedVariables false
set_option linter.unusedSimpArgs false
section
variable {ρ : Obs} {H : Type} {enc : TypeId × Value → H} {P : Program} {w : World}
abbrev U0 : Nat → Prop := fun _ => False
/-- Cells that are read as of type id are a plain value, of which W holds. -/
def Opens (ρ : Obs) (enc : TypeId × Value → H) (P : Program) (w : World) (id : TypeId) (t : T) (W : t.den → Prop) : Prop :=
  ∀ (fuel : Nat) (cs : List Value) (x : DataW H × List MemPlace), DataW.trod enc P w 0 (fun _ => true) true fuel id cs = some x → ∃ y : t.den, ICs ρ U0 w t cs y ∧ W y
theorem opens_int {id : TypeId} {k : IntKind} (h : P.underlying id = some (.int k)) : Opens ρ enc P w id (.int k) (fun x : Int => (Lit.int k x).wf = true) := by
  intro fuel cs x hx
  obtain ⟨n, rfl, _, hw⟩ := DataW.trod_int h hx
  exact ⟨n, rfl, hw⟩
theorem opens_bool {id : TypeId} (h : P.underlying id = some .bool) : Opens ρ enc P w id .bool (fun _ => True) := by
  intro fuel cs x hx
  obtain ⟨b, rfl, _⟩ := DataW.trod_bool h hx
  exact ⟨b, rfl, trivial⟩
theorem opens_two {id : TypeId} {f0 f1 : Field} {t0 t1 : T} {W0 : t0.den → Prop} {W1 : t1.den → Prop} (h : P.underlying id = some (.struct #[f0, f1])) (hc : P.cellsOf id = P.cellsOf f0.type + P.cellsOf f1.type)
    (o0 : f0.offset = 0) (o1 : f1.offset = P.cellsOf f0.type) (h0 : Opens ρ enc P w f0.type t0 W0) (h1 : Opens ρ enc P w f1.type t1 W1) : Opens ρ enc P w id (.pair t0 t1) (fun x => W0 x.1 ∧ W1 x.2) := by
  intro fuel cs x hx
  obtain ⟨xs, n, _, _, hl, hxl, hf⟩ := DataW.trod_struct h hx
  have g0 := hf 0 f0 rfl
  have g1 := hf 1 f1 rfl
  rw [o0, List.drop_zero, List.getElem?_eq_getElem (by rw [hxl]; simp)] at g0
  rw [o1, List.take_of_length_le (by rw [List.length_drop]; omega), List.getElem?_eq_getElem (by rw [hxl]; simp)] at g1
  obtain ⟨y0, q0, k0⟩ := h0 _ _ _ g0
  obtain ⟨y1, q1, k1⟩ := h1 _ _ _ g1
  exact ⟨(y0, y1), ⟨_, _, (List.take_append_drop _ _).symm, q0, q1⟩, k0, k1⟩
theorem opens_three {id : TypeId} {f0 f1 f2 : Field} {t0 t1 t2 : T} {W0 : t0.den → Prop} {W1 : t1.den → Prop} {W2 : t2.den → Prop} (h : P.underlying id = some (.struct #[f0, f1, f2]))
    (hc : P.cellsOf id = P.cellsOf f0.type + P.cellsOf f1.type + P.cellsOf f2.type) (o0 : f0.offset = 0) (o1 : f1.offset = P.cellsOf f0.type) (o2 : f2.offset = P.cellsOf f0.type + P.cellsOf f1.type)
    (h0 : Opens ρ enc P w f0.type t0 W0) (h1 : Opens ρ enc P w f1.type t1 W1) (h2 : Opens ρ enc P w f2.type t2 W2) : Opens ρ enc P w id (.pair t0 (.pair t1 t2)) (fun x => W0 x.1 ∧ W1 x.2.1 ∧ W2 x.2.2) := by
  intro fuel cs x hx
  obtain ⟨xs, n, _, _, hl, hxl, hf⟩ := DataW.trod_struct h hx
  have g0 := hf 0 f0 rfl
  have g1 := hf 1 f1 rfl
  have g2 := hf 2 f2 rfl
  rw [o0, List.drop_zero, List.getElem?_eq_getElem (by rw [hxl]; simp)] at g0
  rw [o1, List.getElem?_eq_getElem (by rw [hxl]; simp)] at g1
  rw [o2, List.take_of_length_le (by rw [List.length_drop]; omega), List.getElem?_eq_getElem (by rw [hxl]; simp), ← List.drop_drop] at g2
  obtain ⟨y0, q0, k0⟩ := h0 _ _ _ g0
  obtain ⟨y1, q1, k1⟩ := h1 _ _ _ g1
  obtain ⟨y2, q2, k2⟩ := h2 _ _ _ g2
  exact ⟨(y0, y1, y2), ⟨_, _, (List.take_append_drop _ _).symm, q0, _, _, (List.take_append_drop _ _).symm, q1, q2⟩, k0, k1, k2⟩
theorem opens_four {id : TypeId} {f0 f1 f2 f3 : Field} {t0 t1 t2 t3 : T} {W0 : t0.den → Prop} {W1 : t1.den → Prop} {W2 : t2.den → Prop} {W3 : t3.den → Prop} (h : P.underlying id = some (.struct #[f0, f1, f2, f3]))
    (hc : P.cellsOf id = P.cellsOf f0.type + P.cellsOf f1.type + P.cellsOf f2.type + P.cellsOf f3.type) (o0 : f0.offset = 0) (o1 : f1.offset = P.cellsOf f0.type) (o2 : f2.offset = P.cellsOf f0.type + P.cellsOf f1.type) (o3 : f3.offset = P.cellsOf f0.type + P.cellsOf f1.type + P.cellsOf f2.type)
    (h0 : Opens ρ enc P w f0.type t0 W0) (h1 : Opens ρ enc P w f1.type t1 W1) (h2 : Opens ρ enc P w f2.type t2 W2) (h3 : Opens ρ enc P w f3.type t3 W3) : Opens ρ enc P w id (.pair t0 (.pair t1 (.pair t2 t3))) (fun x => W0 x.1 ∧ W1 x.2.1 ∧ W2 x.2.2.1 ∧ W3 x.2.2.2) := by
  intro fuel cs x hx
  obtain ⟨xs, n, _, _, hl, hxl, hf⟩ := DataW.trod_struct h hx
  have g0 := hf 0 f0 rfl
  have g1 := hf 1 f1 rfl
  have g2 := hf 2 f2 rfl
  have g3 := hf 3 f3 rfl
  rw [o0, List.drop_zero, List.getElem?_eq_getElem (by rw [hxl]; simp)] at g0
  rw [o1, List.getElem?_eq_getElem (by rw [hxl]; simp)] at g1
  rw [o2, List.getElem?_eq_getElem (by rw [hxl]; simp), ← List.drop_drop] at g2
  rw [o3, List.take_of_length_le (by rw [List.length_drop]; omega), List.getElem?_eq_getElem (by rw [hxl]; simp), ← List.drop_drop, ← List.drop_drop] at g3
  obtain ⟨y0, q0, k0⟩ := h0 _ _ _ g0
  obtain ⟨y1, q1, k1⟩ := h1 _ _ _ g1
  obtain ⟨y2, q2, k2⟩ := h2 _ _ _ g2
  obtain ⟨y3, q3, k3⟩ := h3 _ _ _ g3
  exact ⟨(y0, y1, y2, y3), ⟨_, _, (List.take_append_drop _ _).symm, q0, _, _, (List.take_append_drop _ _).symm, q1, _, _, (List.take_append_drop _ _).symm, q2, q3⟩, k0, k1, k2, k3⟩
theorem cell_spot {a : Addr} {v : Value} (h : w.cell? a = some v) : a.spot = none := by
  unfold World.cell? at h
  split at h
  · split at h
    · cases h
    · rename_i hs
      cases hsp : a.spot with
      | none => rfl
      | some x => rw [hsp] at hs; simp at hs
  · cases h
theorem add_add (a : Addr) (m n : Nat) : (a.add m).add n = a.add (m + n) := by
  unfold Addr.add
  by_cases hm : m = 0
  · subst hm
    simp
  · by_cases hn : n = 0
    · subst hn
      simp
    · rw [if_neg hm, if_neg hn, if_neg (by omega)]
      simp only [Addr.mk.injEq]
      exact ⟨trivial, by omega, trivial⟩
theorem opens_list {id e : TypeId} {t : T} {W : t.den → Prop} (h : P.underlying id = some (.slice e)) (hc : P.cellsOf e = t.size) (he : Opens ρ enc P w e t W) : Opens ρ enc P w id (.list t) (fun xs => List.length xs ≤ maxLen ∧ ∀ x ∈ xs, W x) := by
  intro fuel cs x hx
  rcases DataW.trod_slice h hx with ⟨rfl, _⟩ | ⟨a, len, cap, elems, rest, n, _, rfl, _, _, hl, hm, hlen, hel, _, _⟩
  · exact ⟨([] : List t.den), ⟨none, 0, [], rfl, Nat.zero_le _, Nat.le_refl _, rfl, fun h => absurd h (by simp)⟩, Nat.zero_le _, by simp⟩
  · have key : ∀ k, k ≤ len → ∃ (ds : List Value) (ys : List t.den), ys.length = k ∧ Els (ICs ρ U0 w t) ds ys ∧ (∀ x ∈ ys, W x) ∧ ∀ j, j < ds.length → w.cell? (a.add j) = ds[j]? := by
      intro k
      induction k with
      | zero => exact fun _ => ⟨[], [], rfl, rfl, by simp, by simp⟩
      | succ k ih =>
        intro hk
        obtain ⟨ds, ys, h1, h2, h3, h4⟩ := ih (by omega)
        have h5 := hel k (by omega)
        rw [List.getElem?_eq_getElem (by omega), Option.bind_eq_some_iff] at h5
        obtain ⟨c, h6, h7⟩ := h5
        obtain ⟨y, q, wy⟩ := he _ _ _ h7
        obtain ⟨_, hcl, hcell⟩ := World.cells?_some h6
        have hdl : ds.length = k * t.size := by rw [Els.length (fun _ _ q => ICs.length q) h2, h1]
        refine ⟨ds ++ c, ys ++ [y], by simp [h1], h2.append ⟨c, [], by simp, q, rfl⟩, fun x hx => ?_, fun j hj => ?_⟩
        · rcases List.mem_append.1 hx with hx | hx
          · exact h3 x hx
          · rw [List.mem_singleton] at hx; subst hx; exact wy
        · by_cases hj1 : j < ds.length
          · rw [List.getElem?_append_left hj1]
            exact h4 j hj1
          · rw [List.getElem?_append_right (by omega)]
            have := hcell (j - ds.length) (by rw [List.length_append] at hj; omega)
            rw [add_add, hc, ← hdl, show ds.length + (j - ds.length) = j by omega] at this
            exact this
    obtain ⟨ds, ys, h1, h2, h3, h4⟩ := key len (Nat.le_refl _)
    subst h1
    have hdl : ds.length = ys.length * t.size := Els.length (fun _ _ q => ICs.length q) h2
    refine ⟨ys, ⟨some a, cap, ds, rfl, by omega, hl, h2, fun hp => ?_⟩, by omega, h3⟩
    have hd : 0 < ds.length := by rw [hdl]; exact Nat.mul_pos hp (T.size_pos t)
    have h5 := h4 0 hd
    rw [List.getElem?_eq_getElem hd, show a.add 0 = a from rfl] at h5
    have hs := cell_spot h5
    have hb := cell_lt h5
    obtain ⟨b, off, sp⟩ := a
    obtain rfl : sp = none := hs
    refine ⟨b, off, rfl, fun w' ha j hj => ?_⟩
    rw [World.cell?_of_block (ha.block b hb (fun h => h))]
    have := h4 j hj
    by_cases hj0 : j = 0
    · subst hj0; exact this
    · unfold Addr.add at this
      rw [if_neg hj0] at this
      exact this
/-- An argument's own value. -/
theorem ird_of {id : TypeId} {t : T} {W : t.den → Prop} {v : Value} {d : DataW H} {p : List MemPlace} (h : Opens ρ enc P w id t W) (hv : v = pack t v.cells.toList) (hd : DataW.Trod enc P w 0 (fun _ => true) true id v d p) : ∃ y, IRd ρ U0 w t v y ∧ W y := by
  obtain ⟨fuel, hf⟩ := hd
  obtain ⟨y, q, hy⟩ := h _ _ _ hf
  exact ⟨y, ⟨_, hv, q⟩, hy⟩
theorem lit_wf {x : Int} (h : (Lit.int .i64 x).wf = true) : Wf x := by
  unfold Wf
  simp [Lit.wf, IntKind.min, IntKind.max, IntKind.signed, IntKind.bits] at h
  omega
end
/-- The walk of a statement: a plain function that tells true of all plain values that may be handed in. -/
theorem calls_true {P : Program} {ρ : Obs} {f : FuncId} {ps : List PM} {pre : Ds (ps.map PM.ty) → Bool} {fn : Ds (ps.map PM.ty) → Ds (muts ps ++ ([.val .bool] : List PM).map PM.ty)} (hs : Sound P ρ f ⟨ps, [.val .bool], pre, fn, false⟩) (hn : nOwn ps = 0)
    (d : Ds (ps.map PM.ty)) (hp : pre d = true) (hf : (dr (fn d)).1 = true) (w : World) (vs : List Value) (hK : KOk ρ U0 w) (ha : ArgsOk ρ U0 w (fun _ => nilV) ps d vs 0) : Calls P f vs.toArray w fun e w' => e = .returned (.bool true) ∧ Below w.heap.size w w' := by
  have ap : Apart (nOwn ps) (fun _ => nilV) := by rw [hn]; exact apart0 _
  refine (hs d hp w U0 U0 ρ.V (fun _ => nilV) vs (fun _ h => h.elim) (fun _ h => h.elim) (fun _ _ h => h) ap ?_ ?_).mono ?_
  · have e : Us U0 (nOwn ps) (fun _ => nilV) = U0 := by
      funext b
      refine propext ⟨fun h => h.elim id (fun ⟨i, hi, _⟩ => by rw [hn] at hi; exact absurd hi (Nat.not_lt_zero i)), fun h => h.elim⟩
    show KOk ρ (Us U0 (nOwn ps) (fun _ => nilV)) w
    rw [e]
    exact hK
  · have e : Us U0 (nOwn ps) (fun _ => nilV) = U0 := by
      funext b
      refine propext ⟨fun h => h.elim id (fun ⟨i, hi, _⟩ => by rw [hn] at hi; exact absurd hi (Nat.not_lt_zero i)), fun h => h.elim⟩
    show ArgsOk ρ (Us U0 (nOwn ps) (fun _ => nilV)) w (fun _ => nilV) ps d vs 0
    rw [e]
    exact ha
  · rintro e w' ⟨rvs, hd', rfl, hag, _, _, _, _, hr⟩
    match rvs, hr with
    | [v], ⟨h1, _⟩ =>
      refine ⟨?_, hag.below (fun b _ hb => hb.elim id (fun ⟨i, hi, _⟩ => by
        have hi' : i < nOwn ps := hi
        rw [hn] at hi'
        exact absurd hi' (Nat.not_lt_zero i)))⟩
      obtain rfl := h1.bool
      have e : (dr (fn d)).1 = true := hf
      show Ending.returned (.bool (dr (fn d)).1) = _
      rw [e]
end Go.Proofs.YthbojpaghbbnnaaDoor.Z
namespace Go.Proofs.YthbojpaghbbnnaaDoor
set_option linter.unusedVariables false
set_option linter.unusedSimpArgs false
def isPair (c : Chg) (a b : Nat) : Prop := (c.1.1 = a ∧ c.1.2 = b) ∨ (c.1.1 = b ∧ c.1.2 = a)
end Go.Proofs.YthbojpaghbbnnaaDoor
namespace Go.Proofs.YthbojpaghbbnnaaDoor.Z
open Go Go.RowKit
set_option linter.unusedVariables false
set_option linter.unusedSimpArgs false
section
variable {ρ : Obs} {P : Program} {f : FuncId}
theorem sound11K {fr : Bool} {t0 r0 : T} {pre : t0.den → Bool} {fn : t0.den → r0.den × Unit} (h : ∀ x0, pre x0 = true → ∀ w U U' v0, (∀ b, U' b → b < w.heap.size) → ρ 3 w (.bool true) () → IRd ρ U w t0 v0 x0 → Calls P f #[v0] w (Res1 ρ U' w r0 (fn x0).1)) (nt0 : t0.noptr = true := by rfl) (nr0 : r0.noptr = true := by rfl) :
    Sound P ρ f ⟨[.val t0], [.val r0], fun d => match d with | (x0, _) => pre x0, fun d => match d with | (x0, _) => fn x0, fr⟩ := by
  intro d hp w U0 U1 V hd0 vs hu hu1 hfr hap hK ha
  obtain ⟨x0, _⟩ := d
  match vs, ha with
  | [v0], ⟨h0, _⟩ =>
    refine (h x0 hp w U0 U1 v0 (fun b hb => (hu1 b hb).1) (hK w (Ag.refl _ _)) (IRd.npi nt0 (h0.tr (tr0 w)))).mono ?_
    rintro e w' ⟨hb, u, rfl, hr⟩
    exact ⟨[u], hd0, rfl, Ag.of_below hb _, fun _ hi => absurd hi (Nat.not_lt_zero _), fun _ hi => absurd hi (Nat.not_lt_zero _), apart0 _, trivial, (IRd.npo nr0 hr).tr (tr0' w'), trivial⟩
end
namespace Tz
abbrev ps : List PM := [.val U64]
abbrev rs : List PM := [.val I64]
noncomputable def pre (x : Int) : Bool := decide (0 ≤ x) && decide (x < 18446744073709551616)
noncomputable def fn (x : Int) : Int × Unit := ((Lib.ctz 64 x.toNat : Int), ())
noncomputable def sig : Sig := ⟨ps, rs, fun d => match d with
  | (x, _) => pre x, fun d => match d with
  | (x, _) => fn x, false⟩
set_option maxHeartbeats 1000000 in
theorem core (x k idx : Nat) (w : World) (hx0 : ((x : Int) == 0) = false)
    (key : bits BinOp.and IntKind.u64 (x : Int) (IntKind.u64.wrap (-(x : Int))) * 285870213051353865 % 18446744073709551616 / 288230376151711744 = (idx : Int) ∨ IntKind.u64.wrap (bits BinOp.and IntKind.u64 (x : Int) (IntKind.u64.wrap (-(x : Int))) * 285870213051353865) / 288230376151711744 = (idx : Int))
    (key2 : IntKind.u64.wrap (bits BinOp.and IntKind.u64 (x : Int) (IntKind.u64.wrap (-(x : Int))) * 285870213051353865) / 288230376151711744 = (idx : Int))
    (hi : idx < 64) (hk : k < 64) (hcell : w.cell? ⟨0, idx, none⟩ = some (.int .u8 k)) :
    Calls Tryd.prog 71 #[.int .u64 x] w fun e w' => e = .returned (.int .i64 k) ∧ w' = w := by
  go_enter Tryd.func71, Tryd.ntmps71
  go_wp2_with (simp only [key2])
  go_ret
  exact ⟨rfl, rfl⟩
theorem zero (w : World) : Calls Tryd.prog 71 #[.int .u64 0] w fun e w' => e = .returned (.int .i64 64) ∧ w' = w := by
  go_enter Tryd.func71, Tryd.ntmps71
  go_wp2
  go_ret
  exact ⟨rfl, rfl⟩
theorem walk (x : Nat) (hx : x < 18446744073709551616) (w : World) (hT : Go.Proofs.TabAt 0 Lib.deBruijn64tab w) :
    Calls Tryd.prog 71 #[.int .u64 x] w fun e w' => e = .returned (.int .i64 (Lib.ctz 64 x)) ∧ w' = w := by
  by_cases hx0 : x = 0
  · subst hx0
    exact zero w
  · obtain ⟨hlow, hk⟩ := Lib.lowest_bit 64 x hx0 hx
    obtain ⟨hi, htab⟩ := Lib.deBruijn64_at _ hk
    have hcell := hT _ hi
    rw [htab] at hcell
    have k2 := Go.Proofs.tz64_key x _ hx hx0 hlow
    exact core x _ _ w (by simp; omega) (.inr k2) k2 hi hk hcell
theorem sound : Sound Tryd.prog rho 71 sig := sound11K (fun (x : Int) hp w U U' v0 hU hK h0 => by
  have hp := (show (decide (0 ≤ x) && decide (x < 18446744073709551616)) = true from hp)
  rw [Bool.and_eq_true, decide_eq_true_eq, decide_eq_true_eq] at hp
  obtain ⟨n, rfl⟩ := Int.eq_ofNat_of_zero_le hp.1
  obtain ⟨cs, rfl, h0⟩ := h0
  have h0' : cs = [.int .u64 (n : Int)] := h0
  subst h0'
  refine (walk n (by omega) w hK).mono ?_
  rintro e w' ⟨rfl, rfl⟩
  exact ⟨Below.refl _ _, _, rfl, ⟨[.int .i64 (Lib.ctz 64 n : Int)], rfl, rfl⟩⟩)
theorem enters : Enters Tryd.prog 71 := enters_of (fn := Tryd.f71) (by kernel_rfl) (by kernel_rfl) (by kernel_rfl)
theorem okR : Enters Tryd.prog 71 ∧ Sound Tryd.prog rho 71 sig := ⟨enters, sound⟩
end Tz
end Go.Proofs.YthbojpaghbbnnaaDoor.Z
namespace Go.Proofs.YthbojpaghbbnnaaDoor
open Go Go.RowKit
set_option linter.unusedVariables false
set_option linter.unusedSimpArgs false
theorem shard_clo (W : World) {vb lb b off ab ao n c h : Nat} {v x : Int} (hv : W.cell? ⟨vb, 0, none⟩ = some (.int .i64 v)) (hl : W.cell? ⟨lb, 0, none⟩ = some (.pointer (some ⟨b, off, none⟩)))
    (hs : W.cell? ⟨b, off, none⟩ = some (.slice (some ⟨ab, ao, none⟩) n c)) (hh : h < n) (hn : n ≤ 4294967296) (hx : W.cell? ⟨ab, ao + h, none⟩ = some (.int .i64 x)) :
    Calls Tryd.prog 64 #[.int .i64 h, .pointer (some ⟨vb, 0, none⟩), .pointer (some ⟨lb, 0, none⟩)] W fun e w' => e = .returned (.bool (decide (v < x))) ∧ Below W.heap.size W w' := by
  go_enter Tryd.func64, Tryd.ntmps64
  go_wp2
  go_quiet (fail)
  go_wp2
  go_ret
  exact ⟨rfl, below_drewN (Below.refl _ _) _⟩
/-- What the search stands on, as long as old memory stays. -/
structure ShAt (W : World) (vb lb b off ab ao n c : Nat) (v : Int) (cuts : List Int) : Prop where
  lt : vb < W.heap.size ∧ lb < W.heap.size ∧ b < W.heap.size ∧ ab < W.heap.size
  cv : W.cell? ⟨vb, 0, none⟩ = some (.int .i64 v)
  cl : W.cell? ⟨lb, 0, none⟩ = some (.pointer (some ⟨b, off, none⟩))
  cs : W.cell? ⟨b, off, none⟩ = some (.slice (some ⟨ab, ao, none⟩) n c)
  cx : ∀ h, h < n → W.cell? ⟨ab, ao + h, none⟩ = some (.int .i64 (cuts.getD h 0))
theorem ShAt.below {W W' : World} {vb lb b off ab ao n c : Nat} {v : Int} {cuts : List Int} (h : ShAt W vb lb b off ab ao n c v cuts) (hb : Below W.heap.size W W') : ShAt W' vb lb b off ab ao n c v cuts := by
  obtain ⟨h1, h2, h3, h4⟩ := h.lt
  have s := hb.size
  have f : ∀ (x j : Nat) (y : Value), x < W.heap.size → W.cell? ⟨x, j, none⟩ = some y → W'.cell? ⟨x, j, none⟩ = some y := fun x j y hx hy => by
    rw [← hy]
    exact World.cell?_of_block (w := W) (a := ⟨x, j, none⟩) (hb.block x hx)
  exact ⟨⟨by omega, by omega, by omega, by omega⟩, f _ _ _ h1 h.cv, f _ _ _ h2 h.cl, f _ _ _ h3 h.cs, fun k hk => f _ _ _ h4 (h.cx k hk)⟩
/-- How many cuts are not above v. -/
theorem search_any (w : World) {vb lb b off ab ao n c : Nat} {v : Int} {cuts : List Int} (hS : ShAt w vb lb b off ab ao n c v cuts) (hn : n ≤ 4294967296) (hsrt : ∀ i j, i < j → j < n → cuts.getD i 0 < cuts.getD j 0) :
    Calls Tryd.prog 63 #[.int .i64 n, .func (.func 64) #[] #[.pointer (some ⟨vb, 0, none⟩), .pointer (some ⟨lb, 0, none⟩)]] w fun e w' => ∃ k : Nat, e = .returned (.int .i64 k) ∧ k ≤ n ∧ (∀ i, i < k → cuts.getD i 0 ≤ v) ∧ (∀ i, k ≤ i → i < n → v < cuts.getD i 0) ∧ Below w.heap.size w w' := by
  have HS := Lib.hid hS
  have HR := Lib.hid hsrt
  clear hS hsrt
  go_enter Tryd.func63, Tryd.ntmps63
  go_wp2
  go_loopg [5, 6] n (fun g i j wr => ∃ p q : Nat, g = q - p ∧ p ≤ q ∧ q ≤ n ∧ i = .int .i64 (p : Int) ∧ j = .int .i64 (q : Int) ∧ Hid ((∀ t, t < p → cuts.getD t 0 ≤ v) ∧ (∀ t, q ≤ t → t < n → v < cuts.getD t 0) ∧ Below w.heap.size w wr))
  case atStart => exact ⟨0, n, by omega, by omega, by omega, rfl, rfl, fun t ht => by omega, fun t h1 h2 => by omega, Below.refl _ _⟩
  case round =>
    obtain ⟨p, q, rfl, hpq, hqn, rfl, rfl, HI⟩ := hrel
    by_cases hlt : p < q
    · have HA := Lib.hid (HS.out.below HI.out.2.2)
      have hm : p ≤ (p + q) / 2 ∧ (p + q) / 2 < q := by omega
      obtain ⟨m, hme⟩ : ∃ m, m = (p + q) / 2 := ⟨_, rfl⟩
      have he : ((p : Int) + (q : Int)) / 2 = (m : Int) := by omega
      rw [← hme] at hm
      have HE := Lib.hid he
      clear he hme
      obtain ⟨x, hx⟩ : ∃ x, cuts.getD m 0 = x := ⟨_, rfl⟩
      have HX := Lib.hid hx
      clear hx
      by_cases hv : v < x
      · have hvd : decide (v < x) = true := decide_eq_true hv
        go_wp2_with (go_at_call 64; rw [HE.out]; refine (shard_clo wr HA.out.cv HA.out.cl HA.out.cs (show m < n by omega) hn (by rw [HA.out.cx m (by omega), HX.out])).mono ?_; rintro e w' ⟨rfl, hb'⟩; rw [hvd])
        have HB := Lib.hid hb'
        clear hb'
        go_roundg (m - p)
        case measure => omega
        case rel =>
          refine ⟨p, m, rfl, by omega, by omega, rfl, ?_, HI.out.1, fun t h1 h2 => ?_, HI.out.2.2.trans (HB.out.mono HI.out.2.2.size)⟩
          · go_num
          · rcases Nat.eq_or_lt_of_le h1 with h3 | h3
            · rw [← h3, HX.out]; exact hv
            · have := HR.out m t h3 h2
              have hx := HX.out
              omega
      · have hvd : decide (v < x) = false := decide_eq_false hv
        go_wp2_with (go_at_call 64; rw [HE.out]; refine (shard_clo wr HA.out.cv HA.out.cl HA.out.cs (show m < n by omega) hn (by rw [HA.out.cx m (by omega), HX.out])).mono ?_; rintro e w' ⟨rfl, hb'⟩; rw [hvd])
        have HB := Lib.hid hb'
        clear hb'
        go_roundg (q - (m + 1))
        case measure => omega
        case rel =>
          refine ⟨m + 1, q, rfl, by omega, by omega, ?_, rfl, fun t h1 => ?_, HI.out.2.1, HI.out.2.2.trans (HB.out.mono HI.out.2.2.size)⟩
          · go_num
          · rcases Nat.lt_or_ge t m with h3 | h3
            · have := HR.out t m h3 (by omega)
              have hx := HX.out
              omega
            · have : t = m := by omega
              rw [this, HX.out]; omega
    · go_wp2
      go_ret
      exact ⟨p, rfl, by omega, HI.out.1, fun i h1 h2 => HI.out.2.1 i (by omega) h2, HI.out.2.2⟩
/-- A layout in memory. -/
structure LayAt (w : World) (vl : Value) (b off : Nat) (A : Option Addr) (c : Nat) (cuts : List Int) : Prop where
  eq : vl = .pointer (some ⟨b, off, none⟩)
  lt : b < w.heap.size
  cs : w.cell? ⟨b, off, none⟩ = some (.slice A cuts.length c)
  el : 0 < cuts.length → ∃ ab ao, A = some ⟨ab, ao, none⟩ ∧ ab < w.heap.size ∧ ∀ h, h < cuts.length → w.cell? ⟨ab, ao + h, none⟩ = some (.int .i64 (cuts.getD h 0))
/-- The shard of a vertex. -/
def shardOf (cuts : List Int) (v : Int) : Int := if 0 ≤ v ∧ v < cuts.getD (cuts.length - 1) 0 then (cuts.countP (fun x => decide (x ≤ v)) : Int) else -1
theorem layN_any (w : World) {b off c : Nat} {A : Option Addr} {cuts : List Int} (hcs : w.cell? ⟨b, off, none⟩ = some (.slice A cuts.length c))
    (hel : 0 < cuts.length → ∃ ab ao, A = some ⟨ab, ao, none⟩ ∧ w.cell? ⟨ab, ao + (cuts.length - 1), none⟩ = some (.int .i64 (cuts.getD (cuts.length - 1) 0))) (hn : cuts.length ≤ 4294967296) :
    Calls Tryd.prog 62 #[.pointer (some ⟨b, off, none⟩)] w fun e w' => e = .returned (.int .i64 (cuts.getD (cuts.length - 1) 0)) ∧ ∃ k, w' = w.drewN k := by
  rcases Nat.eq_zero_or_pos cuts.length with h0 | h0
  · have hcz : cuts = [] := List.length_eq_zero_iff.1 h0
    subst hcz
    have hcs' : w.cell? ⟨b, off, none⟩ = some (.slice A 0 c) := hcs
    go_enter Tryd.func62, Tryd.ntmps62
    go_wp2
    go_ret
    exact ⟨rfl, 0, rfl⟩
  · obtain ⟨ab, ao, rfl, hx⟩ := hel h0
    obtain ⟨n, hn'⟩ : ∃ n, n = cuts.length := ⟨_, rfl⟩
    obtain ⟨x, hxe⟩ : ∃ x, x = cuts.getD (cuts.length - 1) 0 := ⟨_, rfl⟩
    rw [← hxe] at hx ⊢
    rw [← hn'] at hx hcs h0 hn
    clear hxe hn'
    go_enter Tryd.func62, Tryd.ntmps62
    go_wp2
    go_quiet (fail)
    go_wp2
    go_ret
    exact ⟨rfl, _, rfl⟩
theorem count_least {cuts : List Int} {v : Int} {k : Nat} (hk : k ≤ cuts.length) (h1 : ∀ i, i < k → cuts.getD i 0 ≤ v) (h2 : ∀ i, k ≤ i → i < cuts.length → v < cuts.getD i 0) : cuts.countP (fun x => decide (x ≤ v)) = k := by
  induction cuts generalizing k with
  | nil => simp at hk; subst hk; rfl
  | cons x l ih =>
    rw [List.countP_cons]
    cases k with
    | zero =>
      have hx := h2 0 (by omega) (by simp)
      have h0 : x > v := by simpa using hx
      rw [ih (k := 0) (by omega) (fun i hi => by omega) (fun i _ hi => by have := h2 (i + 1) (by omega) (by simpa using hi); simpa using this), if_neg (by rw [decide_eq_true_eq]; omega)]
    | succ k =>
      have h0 : x ≤ v := by have := h1 0 (by omega); simpa using this
      rw [ih (k := k) (by simpa using hk) (fun i hi => by have := h1 (i + 1) (by omega); simpa using this) (fun i hi hl => by have := h2 (i + 1) (by omega) (by simpa using hl); simpa using this), if_pos (by rw [decide_eq_true_eq]; exact h0)]
theorem shard_any (w : World) {vl : Value} {b off c : Nat} {A : Option Addr} {cuts : List Int} (v : Int) (hL : LayAt w vl b off A c cuts) (hn : cuts.length ≤ 4294967296) (hsrt : ∀ i j, i < j → j < cuts.length → cuts.getD i 0 < cuts.getD j 0) :
    Calls Tryd.prog 32 #[vl, .int .i64 v] w fun e w' => e = .returned (.int .i64 (shardOf cuts v)) ∧ Below w.heap.size w w' := by
  obtain ⟨rfl, hlt, hcs, hel⟩ := hL
  have hmf : ∀ (fn : Fn) (first cap : Array Value) (w : World), (Instr.makeFunc fn first cap).run Tryd.prog w = .ok (.func fn first cap) w := fun _ _ _ _ => rfl
  obtain ⟨w1, hw1⟩ : ∃ w1, (w.alloc (.cells #[.pointer (some ⟨b, off, none⟩)] 37)).alloc (.cells #[.int .i64 v] 3) = w1 := ⟨_, rfl⟩
  have hb1 : Below w.heap.size w w1 := by
    rw [← hw1]
    exact ((Below.refl _ _).alloc (Nat.le_refl _) _).alloc (by simp) _
  have hs1 : w1.heap.size = w.heap.size + 2 := by rw [← hw1]; simp
  have cl : w1.cell? ⟨w.heap.size, 0, none⟩ = some (.pointer (some ⟨b, off, none⟩)) := by
    rw [← hw1, World.cell?_alloc_past _ _ _ (by simp), World.cell?_alloc_at _ _ _ _ rfl]; rfl
  have cv : w1.cell? ⟨w.heap.size + 1, 0, none⟩ = some (.int .i64 v) := by
    rw [← hw1, World.cell?_alloc_at _ _ _ _ (by simp)]; rfl
  have old : ∀ (x j : Nat) (y : Value), x < w.heap.size → w.cell? ⟨x, j, none⟩ = some y → w1.cell? ⟨x, j, none⟩ = some y := fun x j y hx hy => by
    rw [← hy]
    exact World.cell?_of_block (w := w) (a := ⟨x, j, none⟩) (hb1.block x hx)
  have cs := old _ _ _ hlt hcs
  have ce : 0 < cuts.length → ∃ ab ao, A = some ⟨ab, ao, none⟩ ∧ w1.cell? ⟨ab, ao + (cuts.length - 1), none⟩ = some (.int .i64 (cuts.getD (cuts.length - 1) 0)) := fun h0 => by
    obtain ⟨ab, ao, h1, h2, h3⟩ := hel h0
    exact ⟨ab, ao, h1, old _ _ _ h2 (h3 _ (by omega))⟩
  have HN : ∀ k, Calls Tryd.prog 62 #[.pointer (some ⟨b, off, none⟩)] (w1.drewN k) fun e w' => e = .returned (.int .i64 (cuts.getD (cuts.length - 1) 0)) ∧ ∃ k', w' = w1.drewN k' := fun k => (layN_any (w1.drewN k) cs ce hn).mono (by
    rintro e w' ⟨rfl, k', rfl⟩
    exact ⟨rfl, k + k', by simp [World.drewN, Nat.add_assoc]⟩)
  have HE := Lib.hid hel
  have HB := Lib.hid hb1
  have HR := Lib.hid hsrt
  have HO := Lib.hid old
  clear hel hb1 hsrt old ce
  obtain ⟨n, hne⟩ : ∃ n, cuts.length = n := ⟨_, rfl⟩
  obtain ⟨x, hxe⟩ : ∃ x, cuts.getD (cuts.length - 1) 0 = x := ⟨_, rfl⟩
  have HX := Lib.hid hxe
  have HL := Lib.hid hne
  have hsh : shardOf cuts v = if 0 ≤ v ∧ v < x then (cuts.countP (fun x => decide (x ≤ v)) : Int) else -1 := by unfold shardOf; rw [hxe]
  rw [hsh]
  rw [hxe] at HN
  rw [hne] at cs hn
  clear hsh hxe hne hcs
  by_cases hv : v < 0
  · rw [if_neg (by omega)]
    go_enter Tryd.func32, Tryd.ntmps32
    go_wp2
    go_quiet ((refine (HN _).mono ?_; rintro e w' ⟨rfl, k', rfl⟩; exact ⟨rfl, _, rfl⟩))
    go_wp2
    go_ret
    exact ⟨rfl, below_drewN HB.out _⟩
  · have hvd : decide (v < 0) = false := decide_eq_false hv
    by_cases hx : x ≤ v
    · rw [if_neg (by omega)]
      go_enter Tryd.func32, Tryd.ntmps32
      go_wp2
      go_quiet ((refine (HN _).mono ?_; rintro e w' ⟨rfl, k', rfl⟩; exact ⟨rfl, _, rfl⟩))
      go_wp2
      go_ret
      exact ⟨rfl, below_drewN HB.out _⟩
    · rw [if_pos (by omega)]
      have hpos : 0 < cuts.length := by
        rcases Nat.eq_zero_or_pos cuts.length with h0 | h0
        · have h1 : cuts = [] := List.length_eq_zero_iff.1 h0
          have h2 := HX.out
          rw [h1] at h2
          have h3 : (0 : Int) = x := h2
          omega
        · exact h0
      obtain ⟨ab, ao, rfl, e2, e3⟩ := HE.out hpos
      have hs0 : ∀ k, ShAt (w1.drewN k) (w.heap.size + 1) w.heap.size b off ab ao n c v cuts := fun k => ⟨⟨by simp; omega, by simp; omega, by simp; omega, by simp; omega⟩, cv, cl, cs, fun h hh => HO.out _ _ _ e2 (e3 h (by rw [HL.out]; exact hh))⟩
      have HS := Lib.hid hs0
      have hr0 : ∀ i j, i < j → j < n → cuts.getD i 0 < cuts.getD j 0 := fun i j h1 h2 => HR.out i j h1 (by rw [HL.out]; exact h2)
      have HRn := Lib.hid hr0
      clear e3 hs0 hr0
      go_enter Tryd.func32, Tryd.ntmps32
      go_wp2
      go_quiet ((refine (HN _).mono ?_; rintro e w' ⟨rfl, k', rfl⟩; exact ⟨rfl, _, rfl⟩))
      go_wp2_with (go_at_call 63; refine (search_any _ (HS.out _) hn HRn.out).mono ?_; rintro e w' ⟨k, rfl, hk1, hk2, hk3, hb'⟩)
      have HK := Lib.hid hk2
      have HJ := Lib.hid hk3
      have HF := Lib.hid hb'
      clear hk2 hk3 hb'
      go_ret
      refine ⟨?_, (below_drewN HB.out _).trans (HF.out.mono (by simp; omega))⟩
      rw [count_least (cuts := cuts) (k := k) (by rw [HL.out]; exact hk1) HK.out (fun i h1 h2 => HJ.out i h1 (by rw [← HL.out]; exact h2))]
      rfl
end Go.Proofs.YthbojpaghbbnnaaDoor
namespace Go.Proofs.YthbojpaghbbnnaaDoor.Z
open Go Go.RowKit
set_option linter.unusedVariables false
set_option linter.unusedSimpArgs false
theorem sound21p {ρ : Obs} {P : Program} {f : FuncId} {fr : Bool} {t0 t1 r0 : T} {pre : t0.den → t1.den → Bool} {fn : t0.den → t1.den → r0.den × Unit} (h : ∀ x0 x1, pre x0 x1 = true → ∀ V w U U' v0 v1, (∀ b, U' b → b < w.heap.size) → IRd (ρ.on V) U w t0 v0 x0 → IRd ρ U w t1 v1 x1 → Calls P f #[v0, v1] w (Res1 ρ U' w r0 (fn x0 x1).1)) (nt1 : t1.noptr = true := by rfl) (nr0 : r0.noptr = true := by rfl) :
    Sound P ρ f ⟨[.val t0, .val t1], [.val r0], fun d => match d with | (x0, x1, _) => pre x0 x1, fun d => match d with | (x0, x1, _) => fn x0 x1, fr⟩ := by
  intro d hp w U0 U1 V hd0 vs hu hu1 hfr hap hK ha
  obtain ⟨x0, x1, _⟩ := d
  match vs, ha with
  | [v0, v1], ⟨h0, h1, _⟩ =>
    refine (h x0 x1 hp V w U0 U1 v0 v1 (fun b hb => (hu1 b hb).1) (h0.tr (tr0 w)) (IRd.npi nt1 (h1.tr (tr0 w)))).mono ?_
    rintro e w' ⟨hb, u, rfl, hr⟩
    exact ⟨[u], hd0, rfl, Ag.of_below hb _, fun _ hi => absurd hi (Nat.not_lt_zero _), fun _ hi => absurd hi (Nat.not_lt_zero _), apart0 _, trivial, (IRd.npo nr0 hr).tr (tr0' w'), trivial⟩
theorem lay_in {V U : Nat → Prop} {w : World} {v : Value} {cuts : List Int} (h : IRd (rho.on V) U w (.ptr Ly) v (some cuts)) : ∃ b off A c, LayAt w v b off A c cuts ∧ cuts.length ≤ maxLen := by
  obtain ⟨cs, rfl, x, rfl, b, off, ds, rfl, h1, h2⟩ := h
  obtain ⟨A, c, es, rfl, h3, h4, h5, h6⟩ := (show ICs (rho.on V) (Orp U V) w (.list I64) ds cuts from h1)
  have h7 := h2 w (Ag.refl _ _) 0 (by decide)
  have h8 : w.cell? ⟨b, off, none⟩ = some (.slice A cuts.length c) := h7
  refine ⟨b, off, A, c, ⟨rfl, cell_lt h8, h8, fun hp => ?_⟩, h3⟩
  obtain ⟨ab, ao, rfl, h9⟩ := h6 hp
  have e := els_flat (enc := fun x : Int => [Value.int .i64 x]) (fun _ _ h => h) h5
  rw [flat_one] at e
  have hl : es.length = cuts.length := by rw [e, List.length_map]
  have h10 := fun j (hj : j < es.length) => h9 w (Ag.refl _ _) j hj
  have hx : ∀ h, h < cuts.length → w.cell? ⟨ab, ao + h, none⟩ = some (.int .i64 (cuts.getD h 0)) := fun h hh => by
    rw [h10 h (by omega), e, List.getElem?_map, List.getElem?_eq_getElem hh, List.getD_eq_getElem?_getD, List.getElem?_eq_getElem hh]
    rfl
  exact ⟨ab, ao, rfl, cell_lt (hx 0 hp), hx⟩
/-- Do the cuts rise? -/
def risesB (l : List Int) : Bool := decide (l.Pairwise (· < ·))
theorem rises_iff {l : List Int} : risesB l = true ↔ ∀ i j, i < j → j < l.length → l.getD i 0 < l.getD j 0 := by
  unfold risesB
  rw [decide_eq_true_eq, List.pairwise_iff_getElem]
  constructor
  · intro h i j hij hj
    have := h i j (by omega) hj hij
    rw [List.getD_eq_getElem?_getD, List.getD_eq_getElem?_getD, List.getElem?_eq_getElem hj, List.getElem?_eq_getElem (show i < l.length by omega)]
    exact this
  · intro h i j hi hj hij
    have := h i j hij hj
    rw [List.getD_eq_getElem?_getD, List.getD_eq_getElem?_getD, List.getElem?_eq_getElem hj, List.getElem?_eq_getElem (show i < l.length by omega)] at this
    exact this
namespace Shard
abbrev ps : List PM := [.val (.ptr Ly), .val I64]
abbrev rs : List PM := [.val I64]
noncomputable def pre (l : Option (List Int)) (v : Int) : Bool := l.isSome && risesB (l.getD []) && decide ((l.getD []).length ≤ 4294967296)
noncomputable def fn (l : Option (List Int)) (v : Int) : Int × Unit := (shardOf (l.getD []) v, ())
noncomputable def sig : Sig := ⟨ps, rs, fun d => match d with
  | (l, v, _) => pre l v, fun d => match d with
  | (l, v, _) => fn l v, true⟩
theorem sound : Sound Tryd.prog rho 32 sig := sound21p (fun (l : Option (List Int)) (v : Int) hp V w U U' v0 v1 hU h0 h1 => by
  have hp := (show (l.isSome && risesB (l.getD []) && decide ((l.getD []).length ≤ 4294967296)) = true from hp)
  rw [Bool.and_eq_true, Bool.and_eq_true, decide_eq_true_eq] at hp
  cases l with
  | none => cases hp.1.1
  | some cuts =>
    obtain rfl := h1.int
    obtain ⟨b, off, A, c, hL, _⟩ := lay_in h0
    refine (shard_any w v hL hp.2 (rises_iff.1 hp.1.2)).mono ?_
    rintro e w' ⟨rfl, hb⟩
    exact ⟨hb, _, rfl, int_out _⟩)
theorem enters : Enters Tryd.prog 32 := enters_of (fn := Tryd.f32) (by kernel_rfl) (by kernel_rfl) (by kernel_rfl)
theorem okR : Enters Tryd.prog 32 ∧ Sound Tryd.prog rho 32 sig := ⟨enters, sound⟩
end Shard
namespace CloneI
abbrev ps : List PM := [.val (.list I64)]
abbrev rs : List PM := [.own 3 I64]
noncomputable def pre (a : List Int) : Bool := decide (a.length * 8 ≤ 140737488355328)
noncomputable def fn (a : List Int) : (List Int) × Unit := (a, ())
noncomputable def sig : Sig := ⟨ps, rs, fun d => match d with
  | (a, _) => pre a, fun d => match d with
  | (a, _) => fn a, false⟩
theorem sound : Sound Tryd.prog rho 58 sig := sound1o (fun x : Int => [Value.int .i64 x]) (fun _ _ _ => rfl) (fun a hp w U v hU h0 => by
  refine (Clone_any w (ints_in h0) (of_decide_eq_true hp)).mono ?_
  rintro e w' ⟨hb, u, rfl, hu⟩
  refine ⟨hb, u, rfl, ?_⟩
  rw [flat_one]
  exact hu)
theorem enters : Enters Tryd.prog 58 := enters_of (fn := Tryd.f58) (by kernel_rfl) (by kernel_rfl) (by kernel_rfl)
theorem okR : Enters Tryd.prog 58 ∧ Sound Tryd.prog rho 58 sig := ⟨enters, sound⟩
end CloneI
end Go.Proofs.YthbojpaghbbnnaaDoor.Z
namespace Go.Proofs.YthbojpaghbbnnaaDoor.Z
open Go Go.RowKit
set_option linter.unusedVariables false
set_option linter.unusedSimpArgs false
def laysG_ren : Go.Shelf.Ren := ⟨fun | 4 => 72 | n => n, fun | 25 => 3 | 22 => 22 | n => n, fun n => n⟩
theorem laysG : Go.Proofs.Lays8.n4 Tryd.prog laysG_ren := {
  mixed := by kernel_rfl
  f4 := ⟨"slices.Grow[[]int,int]", by decide, Tryd.func72.trans (congrArg some (by kernel_rfl))⟩
  t0 := Tryd.underlying0
  a0 := Tryd.isAgg0
  z0 := Tryd.sizeOf0
  v0 := Tryd.zeroValue0
  t3 := Tryd.underlying3
  a3 := Tryd.isAgg3
  z3 := Tryd.sizeOf3
  v3 := Tryd.zeroValue3
  t4 := Tryd.underlying4
  a4 := Tryd.isAgg4
  z4 := Tryd.sizeOf4
  v4 := Tryd.zeroValue4
  t9 := Tryd.underlying9
  a9 := Tryd.isAgg9
  z9 := Tryd.sizeOf9
  v9 := Tryd.zeroValue9
  t20 := Tryd.underlying20
  a20 := Tryd.isAgg20
  z20 := Tryd.sizeOf20
  v20 := Tryd.zeroValue20
  t22 := Tryd.underlying22
  a22 := Tryd.isAgg22
  z22 := Tryd.sizeOf22
  v22 := Tryd.zeroValue22 }
/-- Room for n numbers, in the row or in a new one. -/
theorem grow_any (w : World) {vC : Value} {l : Nat} {cs : List Value} (hC : w.ownsRow 0 3 1 vC l cs) {A : Option Addr} {c : Nat} (hv : vC = .slice A l c) {n : Nat} (hn : 0 < n) (hbig : n ≤ 1099511627777) :
    Calls Tryd.prog 72 #[.slice A 0 c, .int .i64 n] w fun e w' => ∃ g cap cur, e = .returned (.slice (some ⟨g, 0, none⟩) 0 cap) ∧ n ≤ cap ∧ cap ≤ maxLen ∧ w'.heap[g]? = some (.cells cur 3 (0, 0)) ∧ cur.size = cap ∧ Ag (fun _ => False) w w' ∧ (A = some ⟨g, 0, none⟩ ∨ w.heap.size ≤ g) := by
  have key : (A = none ∧ c = 0) ∨ ∃ g cur, A = some ⟨g, 0, none⟩ ∧ w.heap[g]? = some (.cells cur 3 (0, 0)) ∧ c ≤ maxLen ∧ cur.size = c := by
    rcases hC.2 with ⟨h1, h2⟩ | ⟨g, cap, cur, h1, hb, hg, hn', hc, hs, ht⟩
    · rw [hv] at h1
      injection h1 with h1 _ h3
      exact .inl ⟨h1, h3⟩
    · rw [hv] at h1
      injection h1 with h1 _ h3
      subst h3
      exact .inr ⟨g, cur, h1, hg, hc, by omega⟩
  by_cases hr : n ≤ c
  · rcases key with ⟨_, h0⟩ | ⟨g, cur, rfl, hg, hc, hs⟩
    · omega
    · refine (Any8.slices_Grow_room laysG (some ⟨g, 0, none⟩) 0 c n w (Nat.zero_le _) (by unfold maxLen at hc; omega) (by omega) (by omega)).mono ?_
      rintro e w' ⟨rfl, rfl⟩
      exact ⟨g, c, cur, rfl, hr, hc, hg, hs, Ag.refl _ _, .inl rfl⟩
  · have hcm : c ≤ maxLen := by rcases key with ⟨_, h0⟩ | ⟨_, _, _, _, h, _⟩ <;> omega
    have hcell : ∃ ds : List Value, ds.length = c ∧ ∀ a, A = some a → ∀ j v, ds[j]? = some v → w.cell? (a.add j) = some v := by
      rcases key with ⟨h0, h1⟩ | ⟨g, cur, rfl, hg, hc, hs⟩
      · exact ⟨[], by simp [h1], fun a ha => by rw [h0] at ha; cases ha⟩
      · refine ⟨cur.toList, by simpa using hs, fun a ha j v hj => ?_⟩
        cases ha
        have : (Addr.add ⟨g, 0, none⟩ j) = ⟨g, j, none⟩ := by cases j <;> simp [Addr.add]
        rw [this, cell_of hg]
        simpa using hj
    obtain ⟨ds, hd, hcs⟩ := hcell
    obtain ⟨i0, hi0, hz, hs, hby⟩ : ∃ i0, Tryd.prog.info? 3 = some i0 ∧ i0.zero = some (.int .i64 0) ∧ i0.size = 1 ∧ i0.bytes = 8 := by
      have := infoInt
      cases h : Tryd.prog.info? 3 with
      | none => rw [h] at this; cases this
      | some i =>
        rw [h] at this
        simp only [Option.map_some, Option.some.injEq, Prod.mk.injEq] at this
        exact ⟨i, rfl, this.1, this.2.1, this.2.2⟩
    refine (Any8.slices_Grow_grow laysG i0 (.int .i64 0) hi0 hz (by omega) A 0 c n ds w (Nat.zero_le _) (by omega) (by rw [hby]; omega) (by omega) (by rw [hs]; omega) (fun h => ?_) hcs).mono ?_
    · rcases key with ⟨_, h0⟩ | ⟨_, _, h1, _⟩
      · exact h0
      · rw [h] at h1; cases h1
    · rintro e w' ⟨rfl, rfl⟩
      have hge := grownCap_ge w (0 + n) c (laysG_ren.t 25)
      have hle := grownCap_le_maxLen w (0 + n) c (laysG_ren.t 25) (by unfold maxLen; omega)
      refine ⟨w.heap.size, _, _, rfl, by omega, hle, heap_alloc_new w.drew _, ?_, ⟨rfl, rfl, rfl, by simp, fun b hb _ => Below.heap_alloc w.drew _ b hb⟩, .inr (Nat.le_refl _)⟩
      have hc1 : (Value.int .i64 0).cells.size = 1 := rfl
      simp only [Nat.zero_add] at hge hle ⊢
      simp [Builtin.zeroCells, hc1]
      omega
abbrev vals := Hx.vals
/-- What h leaves: the counts in a row g, all else as it was. -/
structure HW (w w1 : World) (eb g cap : Nat) (vs : List Value) (cs : List Int) : Prop where
  ag : Ag (fun b => b = eb ∨ b = g) w w1
  box : w1.heap[eb]? = some (.cells (vs.set 8 (.slice (some ⟨g, 0, none⟩) cs.length cap)).toArray 93 (0, 0))
  own : OI w1 0 (.slice (some ⟨g, 0, none⟩) cs.length cap) cs
  ne : g ≠ eb
theorem HW.set {w w1 : World} {eb g cap : Nat} {vs : List Value} {cs : List Int} (h : HW w w1 eb g cap vs cs) {k : Nat} (hk : k < cs.length) (y : Int) : HW w (w1.setCell ⟨g, k, none⟩ (.int .i64 y)) eb g cap vs (cs.set k y) := by
  have hl : (cs.set k y).length = cs.length := List.length_set
  refine ⟨h.ag.trans ⟨by simp [World.setCell], by simp [World.setCell], by simp [World.setCell], by rw [size_setCell]; exact Nat.le_refl _, fun b _ hb => Below.heap_setCell w1 _ _ b (by simp only; omega)⟩, ?_, ?_, h.ne⟩
  · rw [hl, Below.heap_setCell w1 _ _ eb (by have := h.ne; simp only; omega)]
    exact h.box
  · rw [hl]
    exact h.own.set k hk y
theorem HW.drew {w w1 : World} {eb g cap : Nat} {vs : List Value} {cs : List Int} (h : HW w w1 eb g cap vs cs) : HW w w1.drew eb g cap vs cs := ⟨h.ag.trans (Ag.drew _ _), h.box, h.own, h.ne⟩
theorem HW.cell {w w1 : World} {eb g cap : Nat} {vs : List Value} {cs : List Int} (h : HW w w1 eb g cap vs cs) {i : Nat} {n : Int} (hn : cs[i]? = some n) : w1.cell? ⟨g, i, none⟩ = some (.int .i64 n) ∧ w1.frozen? ⟨g, i, none⟩ = false := by
  have hi := (List.getElem?_eq_some_iff.1 hn).1
  obtain ⟨g', x, e1, _, _, h1, h2, h3⟩ := h.own.get i hi
  injection e1 with e1
  injection e1 with e1
  subst e1
  have := h3.out
  rw [hn] at this
  injection this with this
  subst this
  exact ⟨h1, h2⟩
theorem HW.fld {w w1 : World} {eb g cap : Nat} {vs : List Value} {cs : List Int} (h : HW w w1 eb g cap vs cs) (h9 : vs.length = 9) (i : Nat) : w1.cell? ⟨eb, i, none⟩ = if i = 8 then some (.slice (some ⟨g, 0, none⟩) cs.length cap) else vs[i]? := by
  rw [cell_of h.box, List.getElem?_toArray, List.getElem?_set]
  by_cases e : i = 8
  · subst e
    simp [h9]
  · rw [if_neg (fun k => e k.symm), if_neg e]
theorem setc {g : Nat} {e : TypeId} : ∀ (vs : List Value) (o : Nat) (w : World) (cur : Array Value), w.heap[g]? = some (.cells cur e (0, 0)) → o + vs.length ≤ cur.size →
    ∃ cur', (w.setCells g o vs).heap[g]? = some (.cells cur' e (0, 0)) ∧ cur'.size = cur.size ∧ (∀ j, j < vs.length → cur'[o + j]? = vs[j]?) ∧ ∀ j, j < o → cur'[j]? = cur[j]?
  | [], o, w, cur, h, _ => ⟨cur, h, rfl, fun j hj => absurd hj (Nat.not_lt_zero _), fun _ _ => rfl⟩
  | v :: vs, o, w, cur, h, hl => by
    have h1 : (w.setCell ⟨g, o, none⟩ v).heap[g]? = some (.cells (cur.setIfInBounds o v) e (0, 0)) := by
      simp only [World.setCell]
      rw [Array.getElem?_modify]
      simp [h]
    simp only [List.length_cons] at hl
    obtain ⟨cur', h2, h3, h4, h5⟩ := setc vs (o + 1) _ _ h1 (by simp; omega)
    refine ⟨cur', h2, by simpa using h3, fun j hj => ?_, fun j hj => ?_⟩
    · cases j with
      | zero =>
        have := h5 o (by omega)
        rw [Nat.add_zero, this]
        simp [Array.getElem?_setIfInBounds]
        omega
      | succ j =>
        have := h4 j (by simpa using hj)
        rw [show o + (j + 1) = o + 1 + j by omega, this]
        rfl
    · rw [h5 j (by omega), Array.getElem?_setIfInBounds_ne (by omega)]
theorem ag_setc (g : Nat) : ∀ (vs : List Value) (o : Nat) (w : World), Ag (fun b => b = g) w (w.setCells g o vs)
  | [], _, w => Ag.refl _ w
  | v :: vs, o, w => (show Ag (fun b => b = g) w (w.setCell ⟨g, o, none⟩ v) from ⟨by simp [World.setCell], by simp [World.setCell], by simp [World.setCell], by rw [size_setCell]; exact Nat.le_refl _, fun b _ hb => Below.heap_setCell w _ _ b (by simp only; omega)⟩).trans (ag_setc g vs (o + 1) _)
theorem hw_start {w w1 : World} {eb g cap n : Nat} {vs : List Value} {cur : Array Value} (hag : Ag (fun _ => False) w w1) (hb : w1.heap[eb]? = some (.cells vs.toArray 93 (0, 0))) (h9 : vs.length = 9) (hg : w1.heap[g]? = some (.cells cur 3 (0, 0))) (hs : cur.size = cap) (hn : n ≤ cap) (hm : cap ≤ maxLen) (hne : g ≠ eb) :
    (∀ j, j < n → (((w1.setCell ⟨eb, 8, none⟩ (.slice (some ⟨g, 0, none⟩) n cap)).cell? ⟨g, 0 + j, none⟩).isSome = true)) ∧ (∀ j, j < n → (w1.setCell ⟨eb, 8, none⟩ (.slice (some ⟨g, 0, none⟩) n cap)).frozen? ⟨g, 0 + j, none⟩ = false) ∧
    HW w ((w1.setCell ⟨eb, 8, none⟩ (.slice (some ⟨g, 0, none⟩) n cap)).setCells g 0 (List.replicate n (.int .i64 0))) eb g cap vs (List.replicate n 0) := by
  have g2 : (w1.setCell ⟨eb, 8, none⟩ (.slice (some ⟨g, 0, none⟩) n cap)).heap[g]? = some (.cells cur 3 (0, 0)) := by
    rw [Below.heap_setCell w1 _ _ g (by simp only; omega)]
    exact hg
  have e2 : (w1.setCell ⟨eb, 8, none⟩ (.slice (some ⟨g, 0, none⟩) n cap)).heap[eb]? = some (.cells (vs.set 8 (.slice (some ⟨g, 0, none⟩) n cap)).toArray 93 (0, 0)) := by
    simp only [World.setCell]
    rw [Array.getElem?_modify]
    simp [hb]
  have hlt := (Array.getElem?_eq_some_iff.1 e2).1
  refine ⟨fun j hj => ?_, fun j hj => free_of g2 _, ?_⟩
  · rw [cell_of g2, Nat.zero_add, Array.getElem?_eq_getElem (by omega)]
    rfl
  · generalize hW : w1.setCell ⟨eb, 8, none⟩ (.slice (some ⟨g, 0, none⟩) n cap) = w2 at g2 e2 hlt ⊢
    have hag2 : Ag (fun b => b = eb) w w2 := by
      subst hW
      exact (hag.mono (fun _ _ h => h.elim)).trans ⟨by simp [World.setCell], by simp [World.setCell], by simp [World.setCell], by rw [size_setCell]; exact Nat.le_refl _, fun b _ hb => Below.heap_setCell w1 _ _ b (by simp only; omega)⟩
    obtain ⟨cur', h2, h3, h4, _⟩ := setc (List.replicate n (.int .i64 0)) 0 w2 cur g2 (by simp; omega)
    have hk := ag_setc g (List.replicate n (.int .i64 0)) 0 w2
    refine ⟨(hag2.mono (fun _ _ h => .inl h)).trans (hk.mono (fun _ _ h => .inr h)), ?_, ?_, hne⟩
    · rw [List.length_replicate, hk.block eb hlt (fun e => hne e.symm)]
      exact e2
    · refine ⟨by simp, .inr ⟨g, cap, cur', rfl, Nat.zero_le _, h2, by simpa using hn, hm, by omega, ?_⟩⟩
      refine List.ext_getElem? (fun j => ?_)
      rw [List.getElem?_take, List.map_replicate]
      by_cases hj : j < n
      · have := h4 j (by simpa using hj)
        rw [if_pos (by simpa using hj)]
        rw [Nat.zero_add] at this
        simpa using this
      · rw [if_neg (by simpa using hj), List.getElem?_eq_none (by simp; omega)]
set_option maxRecDepth 100000 in
set_option maxHeartbeats 8000000 in
theorem hE_any (w : World) {eb : Nat} {vs : List Value} {bb : Nat} {bl bc : Nat} {A : Option Addr} {cl c : Nat} {vT : Value} {bd cn ts : List Int} {v : Nat}
    (hbox : w.heap[eb]? = some (.cells vs.toArray 93 (0, 0))) (h9 : vs.length = 9) (h2 : vs[2]? = some (.slice (some ⟨bb, 0, none⟩) bl bc)) (h8 : vs[8]? = some (.slice A cl c))
    (hB : OI w 0 (.slice (some ⟨bb, 0, none⟩) bl bc) bd) (hC : OI w 0 (.slice A cl c) cn) (hBe : bb ≠ eb) (hCe : ∀ a, A = some a → a.block ≠ eb) (hBC : ∀ a, A = some a → a.block ≠ bb)
    {tA : Option Addr} {tc : Nat} (hvT : vT = .slice tA ts.length tc) (hT : 0 < ts.length → ∃ tb toff, tA = some ⟨tb, toff, none⟩ ∧ ∀ w', Ag (fun b => b = eb ∨ ∃ a, A = some a ∧ b = a.block) w w' → ∀ k, k < ts.length → w'.cell? ⟨tb, toff + k, none⟩ = (ts.map (Value.int .i64))[k]?)
    (hv : v < bd.length) (old : Nat) (hold : bd[v]? = some (old : Int)) (hsm : old ≤ 1099511627776) (hts : ∀ u ∈ ts, 0 ≤ u ∧ u < bd.length) (hb0 : ∀ x ∈ bd, 0 ≤ x) (hlen : ts.length ≤ 1099511627776) :
    Calls Tryd.prog 60 #[.pointer (some ⟨eb, 0, none⟩), .int .i64 v, vT] w fun e w' => ∃ g cap, e = .returned (.int .i64 (Hx.hOf (Hx.vals ts bd) old)) ∧ HW w w' eb g cap vs (bins old (Hx.vals ts bd)) ∧ (A = some ⟨g, 0, none⟩ ∨ w.heap.size ≤ g) := by
  subst hvT
  have f2 : w.cell? ⟨eb, 2, none⟩ = some (.slice (some ⟨bb, 0, none⟩) bl bc) := by rw [cell_of hbox]; simpa using h2
  have f8 : w.cell? ⟨eb, 8, none⟩ = some (.slice A cl c) := by rw [cell_of hbox]; simpa using h8
  obtain ⟨hbl, _⟩ : bl = bd.length ∧ True := by
    have := hB.form.2
    obtain ⟨_, _, e⟩ := this
    injection e with _ e _
    exact ⟨e, trivial⟩
  subst hbl
  have fv : w.cell? ⟨bb, v, none⟩ = some (.int .i64 (old : Int)) := by
    obtain ⟨g', x, e1, _, _, h1, _, h3⟩ := hB.get v hv
    injection e1 with e1
    injection e1 with e1
    subst e1
    have := h3.out
    rw [hold] at this
    injection this with this
    subst this
    exact h1
  have HBOX := Lib.hid hbox
  have HB := Lib.hid hB
  have HC := Lib.hid hC
  have HT := Lib.hid hT
  have HTS := Lib.hid hts
  have HB0 := Lib.hid hb0
  have HCE := Lib.hid hCe
  have HBC := Lib.hid hBC
  have HO := Lib.hid hold
  have hcl : cl = cn.length := by
    have := hC.form.2
    obtain ⟨_, _, e⟩ := this
    injection e
  subst hcl
  clear hbox hB hC hT hts hb0 hCe hBC hold
  obtain ⟨xs, hxs⟩ : ∃ xs, xs = Hx.vals ts bd := ⟨_, rfl⟩
  rw [← hxs]
  have HXS := Lib.hid hxs
  clear hxs
  go_enter Tryd.func60, Tryd.ntmps60
  go_upto_region 3 with (go_at_call 72; refine (grow_any w HC.out rfl (n := old + 1) (by omega) (by omega)).mono ?_; rintro e w1 ⟨g, cap, cur, rfl, hcap, hmax, hg, hs, hag, hor⟩; have hbx := (hag.block eb (Array.getElem?_eq_some_iff.1 HBOX.out).1 id).trans HBOX.out; have q8 : w1.cell? ⟨eb, 8, none⟩ = some (.slice A cn.length c) := (by rw [cell_of hbx]; simpa using h8); have z8 := free_of hbx 8; have HBX := Lib.hid hbx; have HG := Lib.hid hg; have HS := Lib.hid hs; have HAG := Lib.hid hag; have HOR := Lib.hid hor; clear hbx hg hs hag hor)
  have hne : g ≠ eb := by
    rcases HOR.out with h | h
    · exact HCE.out _ h
    · have := (Array.getElem?_eq_some_iff.1 HBOX.out).1
      omega
  obtain ⟨k1, k2, k3⟩ := hw_start (w := w) HAG.out HBX.out h9 HG.out HS.out hcap hmax hne
  have hcl := fun ty => Lib.run_clear_slice (P := Tryd.prog) (w1.setCell ⟨eb, 8, none⟩ (.slice (some ⟨g, 0, none⟩) (old + 1) cap)) 22 3 ty (.int .i64 0) Tryd.underlying22 Tryd.zeroValue3 rfl rfl g 0 (old + 1) cap (by omega) k1 k2
  have HCL := Lib.hid hcl
  have z0 := bins_nil old
  rw [← z0] at k3
  have HW0 := Lib.hid k3
  clear k1 k2 k3 hcl z0
  go_upto_region 4 with (simp only [HCL.out])
  have hxs := HXS.out
  have hxl : xs.length = ts.length := by rw [hxs]; simp [Hx.vals]
  have hxg : ∀ (k : Nat) (u : Int), ts[k]? = some u → xs[k]? = some (bd.getD u.toNat 0) := fun k u hu => by rw [hxs]; simp [Hx.vals, hu]
  have HXG := Lib.hid hxg
  have hres : ((lowOf (bins old xs) old : Nat) : Int) = Hx.hOf xs old := (lowOf_is old xs old (Nat.le_refl _)).uniq (Hx.hOf_is xs old)
  have HRES := Lib.hid hres
  have hagm : ∀ (wr : World) (cs : List Int), HW w wr eb g cap vs cs → Ag (fun b => b = eb ∨ ∃ a, A = some a ∧ b = a.block) w wr := fun _ _ h => h.ag.mono (fun b hb q => by
    rcases q with q | q
    · exact .inl q
    · rcases HOR.out with q2 | q2
      · exact .inr ⟨_, q2, q⟩
      · omega)
  have hbd : ∀ (wr : World) (cs : List Int), HW w wr eb g cap vs cs → OI wr 0 (.slice (some ⟨bb, 0, none⟩) bd.length bc) bd := fun _ _ h => own_of_block HB.out (fun b hb => by
    have hlt := (HB.out.lt (b := b) (by simpa [blk, Value.ownBlock] using hb)).2
    have hbb : bb = b := by simpa [blk] using hb
    refine h.ag.block b hlt (fun q => ?_)
    rcases q with q | q
    · omega
    · rcases HOR.out with q2 | q2
      · exact HBC.out _ q2 (by simp only; omega)
      · omega)
  have HAGM := Lib.hid hagm
  have HBD := Lib.hid hbd
  clear hxg hres hagm hbd hxs
  have hol := bins_len old xs
  go_wp2
  go_loopg [39] ts.length (fun gg s wr => ∃ k : Nat, gg + k = ts.length ∧ s = .int .i64 k ∧ Hid (HW w wr eb g cap vs (bins old (xs.take k))))
  case atStart => exact ⟨0, rfl, rfl, HW0⟩
  case round =>
    obtain ⟨k, hk, rfl, HI⟩ := hrel
    have HK := Lib.hid hk
    have e8 := HI.out.fld h9 8
    have e2 := HI.out.fld h9 2
    rw [if_pos rfl, bins_len] at e8
    rw [if_neg (by decide), h2] at e2
    by_cases hlt : k < ts.length
    · obtain ⟨u, hu⟩ : ∃ u, ts[k]? = some u := ⟨_, List.getElem?_eq_getElem hlt⟩
      obtain ⟨hu0, hu1⟩ := HTS.out u (List.mem_of_getElem? hu)
      obtain ⟨un, rfl⟩ := Int.eq_ofNat_of_zero_le hu0
      have hun : un < bd.length := by omega
      obtain ⟨x, hx⟩ : ∃ x, bd[un]? = some x := ⟨_, List.getElem?_eq_getElem hun⟩
      obtain ⟨xn, rfl⟩ := Int.eq_ofNat_of_zero_le (HB0.out x (List.mem_of_getElem? hx))
      obtain ⟨tb, toff, rfl, hcell⟩ := HT.out (by omega)
      have ct := hcell wr (HAGM.out _ _ HI.out) k hlt
      rw [List.getElem?_map, hu] at ct
      simp only [Option.map_some] at ct
      have cb : wr.cell? ⟨bb, un, none⟩ = some (.int .i64 (xn : Int)) := by
        obtain ⟨g', y, e1, _, _, h1, _, h3⟩ := (HBD.out _ _ HI.out).get un hun
        injection e1 with e1
        injection e1 with e1
        subst e1
        have := h3.out
        rw [hx] at this
        injection this with this
        subst this
        exact h1
      have hxk := HXG.out k _ hu
      rw [List.getD_eq_getElem?_getD, Int.toNat_natCast, hx] at hxk
      simp only [Option.getD_some] at hxk
      have ht : xs.take (k + 1) = xs.take k ++ [(xn : Int)] := by rw [List.take_add_one, hxk]; rfl
      have HTK := Lib.hid ht
      have hcl : clampN old (xn : Int) ≤ old := clampN_le old _
      obtain ⟨n, hn, hnl⟩ := bins_at old (xs.take k) (clampN old xn) hcl
      have hnl2 : n ≤ 1099511627776 := by rw [List.length_take] at hnl; omega
      have hcd : clampN old (xn : Int) = (min (xn : Int) (old : Int)).toNat := by unfold clampN; omega
      have hset := HI.out.drew.set (k := clampN old xn) (by rw [bins_len]; omega) ((n : Int) + 1)
      have hsn := bins_snoc old (xs.take k) (xn : Int)
      have hnn : ((xs.take k).countP (fun y => decide (clampN old y = clampN old xn)) : Nat) = n := by
        have := bins_get old (xs.take k) _ hcl
        rw [this] at hn
        injection hn with hn
        exact_mod_cast hn
      rw [hnn, ← ht] at hsn
      rw [← hsn] at hset
      obtain ⟨c1, f1⟩ := HI.out.cell hn
      rw [hcd] at c1 f1 hset
      have HSET := Lib.hid hset
      have hmn : (min (xn : Int) (old : Int)).toNat < old + 1 := by omega
      have hm0 : 0 ≤ min (xn : Int) (old : Int) := by omega
      have hm1 : min (xn : Int) (old : Int) < (old : Int) + 1 := by omega
      clear ht hn hnl hcd hset hsn hnn hcell hxk hx hu hu0 hu1 hk hcl
      go_upto_region 7 with (fail)
      refine region_T (by kernel_rfl) (fun w' => w'.cell? ⟨eb, 8, none⟩ = some (.slice (some ⟨g, 0, none⟩) (old + 1) cap) ∧ w'.cell? ⟨eb, 2, none⟩ = some (.slice (some ⟨bb, 0, none⟩) bd.length bc) ∧ w'.cell? ⟨bb, un, none⟩ = some (.int .i64 (xn : Int)) ∧ w'.cell? ⟨g, (min (xn : Int) (old : Int)).toNat, none⟩ = some (.int .i64 (n : Int))) 17 ⟨e8, e2, cb, c1⟩ (fun HS => ?_)
      change anyT _ _ _ _ _ _ 18 _ _ _
      refine takeT (i := 0) (v := ?_) rfl rfl (by kernel_rfl) (fun _ _ _ h => h) rfl ?_ HS ?_
      rotate_left
      · intro w' hS'
        obtain ⟨s0, s1, s2, s3⟩ := hS'
        go_simp
        rfl
      rotate_left
      go_frame
      refine takeT (i := 1) (v := ?_) rfl rfl (by kernel_rfl) (fun _ _ _ h => h) rfl ?_ HS ?_
      rotate_left
      · intro w' hS'
        obtain ⟨s0, s1, s2, s3⟩ := hS'
        go_simp
        rfl
      rotate_left
      go_frame
      refine takeT (i := 2) (v := ?_) rfl rfl (by kernel_rfl) (fun _ _ _ h => h) rfl ?_ HS ?_
      rotate_left
      · intro w' hS'
        obtain ⟨s0, s1, s2, s3⟩ := hS'
        go_simp
        rfl
      rotate_left
      go_frame
      refine takeT (i := 3) (v := ?_) rfl rfl (by kernel_rfl) (fun _ _ _ h => h) rfl ?_ HS ?_
      rotate_left
      · intro w' hS'
        obtain ⟨s0, s1, s2, s3⟩ := hS'
        go_simp
        rfl
      rotate_left
      go_frame
      refine takeT (i := 4) (v := ?_) rfl rfl (by kernel_rfl) (fun _ _ _ h => h) rfl ?_ HS ?_
      rotate_left
      · intro w' hS'
        obtain ⟨s0, s1, s2, s3⟩ := hS'
        go_simp
        rfl
      rotate_left
      go_frame
      refine takeT (i := 5) (v := ?_) rfl rfl (by kernel_rfl) (fun _ _ _ h => h) rfl ?_ HS ?_
      rotate_left
      · intro w' hS'
        obtain ⟨s0, s1, s2, s3⟩ := hS'
        go_simp
        rfl
      rotate_left
      go_frame
      refine takeT (i := 6) (v := ?_) rfl rfl (by kernel_rfl) (fun _ _ _ h => h) rfl ?_ HS ?_
      rotate_left
      · intro w' hS'
        obtain ⟨s0, s1, s2, s3⟩ := hS'
        go_simp
        rfl
      rotate_left
      go_frame
      refine takeT (i := 7) (v := ?_) rfl rfl (by kernel_rfl) (fun _ _ _ h => h) rfl ?_ HS ?_
      rotate_left
      · intro w' hS'
        obtain ⟨s0, s1, s2, s3⟩ := hS'
        go_simp
        rfl
      rotate_left
      go_frame
      refine takeT (i := 8) (v := ?_) rfl rfl (by kernel_rfl) (fun _ _ _ h => h) rfl ?_ HS ?_
      rotate_left
      · intro w' hS'
        obtain ⟨s0, s1, s2, s3⟩ := hS'
        go_simp
        rfl
      rotate_left
      go_frame
      refine takeT (i := 9) (v := ?_) rfl rfl (by kernel_rfl) (fun _ _ _ h => h) rfl ?_ HS ?_
      rotate_left
      · intro w' hS'
        obtain ⟨s0, s1, s2, s3⟩ := hS'
        go_simp
        rfl
      rotate_left
      go_frame
      refine takeT (i := 10) (v := ?_) rfl rfl (by kernel_rfl) (fun _ _ _ h => h) rfl ?_ HS ?_
      rotate_left
      · intro w' hS'
        obtain ⟨s0, s1, s2, s3⟩ := hS'
        go_simp
        rfl
      rotate_left
      go_frame
      refine takeT (i := 11) (v := ?_) rfl rfl (by kernel_rfl) (fun _ _ _ h => h) rfl ?_ HS ?_
      rotate_left
      · intro w' hS'
        obtain ⟨s0, s1, s2, s3⟩ := hS'
        go_simp
        rfl
      rotate_left
      go_frame
      refine takeT (i := 12) (v := ?_) rfl rfl (by kernel_rfl) (fun _ _ _ h => h) rfl ?_ HS ?_
      rotate_left
      · intro w' hS'
        obtain ⟨s0, s1, s2, s3⟩ := hS'
        go_simp
        rfl
      rotate_left
      go_frame
      refine takeT (i := 13) (v := ?_) rfl rfl (by kernel_rfl) (fun _ _ _ h => h) rfl ?_ HS ?_
      rotate_left
      · intro w' hS'
        obtain ⟨s0, s1, s2, s3⟩ := hS'
        go_simp
        rfl
      rotate_left
      go_frame
      refine takeT (i := 14) (v := ?_) rfl rfl (by kernel_rfl) (fun _ _ _ h => h) rfl ?_ HS ?_
      rotate_left
      · intro w' hS'
        obtain ⟨s0, s1, s2, s3⟩ := hS'
        go_simp
        rfl
      rotate_left
      go_frame
      refine takeT (i := 15) (v := ?_) rfl rfl (by kernel_rfl) (fun _ _ _ h => h) rfl ?_ HS ?_
      rotate_left
      · intro w' hS'
        obtain ⟨s0, s1, s2, s3⟩ := hS'
        go_simp
        rfl
      rotate_left
      go_frame
      refine takeT (i := 16) (v := ?_) rfl rfl (by kernel_rfl) (fun _ _ _ h => h) rfl ?_ HS ?_
      rotate_left
      · intro w' hS'
        obtain ⟨s0, s1, s2, s3⟩ := hS'
        go_simp
        rfl
      rotate_left
      go_frame
      refine oneT (i := 17) rfl (by kernel_rfl) (fun K hK => ?_)
      go_simp
      refine hK.out _ _ (fun h => absurd rfl h) ?_
      clear hK K
      refine doneT (by kernel_rfl) ?_ 0
      go_wp2
      go_roundg (ts.length - (k + 1))
      case measure => have := HK.out; omega
      case rel => exact ⟨k + 1, by have := HK.out; omega, by go_num, HSET⟩
    · have hke : xs.take k = xs := List.take_of_length_le (by omega)
      have hI := HI.out
      rw [hke] at hI
      have HJ := Lib.hid hI
      clear hke hI e8 e2
      have hbb := bins_bound old xs
      have hget : ∀ j, j ≤ old → ∃ y, (bins old xs)[j]? = some y ∧ 0 ≤ y ∧ y ≤ 1099511627776 := fun j hj => by
        have hl' : j < (bins old xs).length := by rw [bins_len]; omega
        have := hbb _ (List.getElem_mem hl')
        exact ⟨_, List.getElem?_eq_getElem hl', this.1, by omega⟩
      have hsb : ∀ j, 0 ≤ sfx (bins old xs) j ∧ sfx (bins old xs) j ≤ 1099511627776 := fun j => by
        rcases Nat.lt_or_ge j (old + 1) with q | q
        · rw [sfx_bins old xs (old + 1 - j) j (by omega)]
          have := List.countP_le_length (p := fun x => decide (j ≤ clampN old x)) (l := xs)
          omega
        · rw [sfx_out (by rw [bins_len]; omega)]
          omega
      have HG2 := Lib.hid hget
      have HS2 := Lib.hid hsb
      clear hbb hget hsb
      go_wp2
      obtain ⟨wo, rfl⟩ : ∃ wo : World, wo = wr := ⟨_, rfl⟩
      go_loopg [10, 11] old (fun gg n s wx => ∃ h : Nat, gg = h ∧ h ≤ old ∧ n = .int .i64 (sfx (bins old xs) (h + 1)) ∧ s = .int .i64 (h : Int) ∧ Hid (lowOf (bins old xs) old = lowOf (bins old xs) h) ∧ Hid (HW w wx eb g cap vs (bins old xs)))
      case atStart => exact ⟨old, rfl, Nat.le_refl _, by rw [sfx_out (by rw [bins_len]; omega)], rfl, rfl, HJ⟩
      case round =>
        obtain ⟨h, rfl, hh, rfl, rfl, HL, HJ'⟩ := hrel
        have e8 := HJ'.out.fld h9 8
        rw [if_pos rfl, bins_len] at e8
        by_cases h0 : gk = 0
        · subst h0
          go_wp2
          go_ret
          have hr := HRES.out
          rw [HL.out] at hr
          refine ⟨g, cap, ?_, HJ'.out, HOR.out⟩
          rw [← hr]
          rfl
        · obtain ⟨y, hy, hy0, hy1⟩ := HG2.out gk (by omega)
          have hst := sfx_step hy
          have s1 := HS2.out (gk + 1)
          have s2 := HS2.out gk
          have HST := Lib.hid hst
          have c1 := (HJ'.out.cell hy).1
          have hsum : sfx (bins old xs) (gk + 1) + y = sfx (bins old xs) gk := hst.symm
          have hpos : (0 : Int) < (gk : Int) := by omega
          clear hy hst
          by_cases hge : (gk : Int) ≤ sfx (bins old xs) (gk + 1) + y
          · go_wp2
            go_ret
            have hlow : lowOf (bins old xs) gk = gk := by
              obtain ⟨q, rfl⟩ : ∃ q, gk = q + 1 := ⟨gk - 1, by omega⟩
              unfold lowOf
              rw [if_pos (by omega)]
            have hr := HRES.out
            rw [HL.out, hlow] at hr
            refine ⟨g, cap, ?_, HJ'.out, HOR.out⟩
            rw [← hr]
            rfl
          · go_wp2
            go_roundg (gk - 1)
            case measure => omega
            case rel =>
              refine ⟨gk - 1, rfl, by omega, by rw [show gk - 1 + 1 = gk by omega, HST.out], by go_num, ?_, HJ'⟩
              have : lowOf (bins old xs) gk = lowOf (bins old xs) (gk - 1) := by
                obtain ⟨q, rfl⟩ : ∃ q, gk = q + 1 := ⟨gk - 1, by omega⟩
                show (if sfx (bins old xs) (q + 1) ≥ ((q + 1 : Nat) : Int) then q + 1 else lowOf (bins old xs) q) = lowOf (bins old xs) q
                rw [if_neg (by omega)]
              exact HL.out.trans this
namespace hE
abbrev fs : List Fd := [.v (.ptr Ly), .r 3 I64 false, .r 3 I64 false, .r 97 U64 false, .v I64, .v .bool, .v I64, .v I64, .r 3 I64 true]
abbrev ps : List PM := [.bx 93 [.v (.ptr Ly), .r 3 I64 false, .r 3 I64 false, .r 97 U64 false, .v I64, .v .bool, .v I64, .v I64, .r 3 I64 true], .val I64, .val (.list I64)]
abbrev rs : List PM := [.val I64]
noncomputable def preB (bd : List Int) (v : Int) (ts : List Int) : Bool := decide (0 ≤ v) && decide (v < bd.length) && bd.all (fun x => decide (0 ≤ x) && decide (x ≤ 1099511627776)) && ts.all (fun u => decide (0 ≤ u) && decide (u < bd.length)) && decide (ts.length ≤ 1099511627776)
noncomputable def pre (l : Option (List Int)) (dg bd : List Int) (dr : List Int) (p : Int) (u : Bool) (q c : Int) (k : List Int) (v : Int) (ts : List Int) : Bool := preB bd v ts
noncomputable def cnt (bd : List Int) (v : Int) (ts : List Int) : List Int := bins (bd.getD v.toNat 0).toNat (Hx.vals ts bd)
noncomputable def res (bd : List Int) (v : Int) (ts : List Int) : Int := Hx.hOf (Hx.vals ts bd) (bd.getD v.toNat 0)
noncomputable def fn (l : Option (List Int)) (dg bd : List Int) (dr : List Int) (p : Int) (u : Bool) (q c : Int) (k : List Int) (v : Int) (ts : List Int) : (Option (List Int) × List Int × List Int × List Int × Int × Bool × Int × Int × List Int × Bool) × Int × Unit := ((l, dg, bd, dr, p, u, q, c, cnt bd v ts, false), res bd v ts, ())
noncomputable def sig : Sig := ⟨ps, rs, fun d => match d with
  | ((l, dg, bd, dr, p, u, q, c, k, _), v, ts, _) => pre l dg bd dr p u q c k v ts, fun d => match d with
  | ((l, dg, bd, dr, p, u, q, c, k, _), v, ts, _) => fn l dg bd dr p u q c k v ts, false⟩
theorem sound : Sound Tryd.prog rho 60 sig := by
  intro d hp w U0 U1 V hd0 vs' hu hu1 hfr hap hK ha
  obtain ⟨⟨l, dg, bdx, dr, p, u, q, c, kx, dm⟩, vx, tsx, un⟩ := d
  obtain ⟨ts, e⟩ : ∃ x : List Int, x = tsx := ⟨tsx, rfl⟩
  subst e
  obtain ⟨bd, e⟩ : ∃ x : List Int, x = bdx := ⟨bdx, rfl⟩
  subst e
  obtain ⟨k, e⟩ : ∃ x : List Int, x = kx := ⟨kx, rfl⟩
  subst e
  obtain ⟨v, e⟩ : ∃ x : Int, x = vx := ⟨vx, rfl⟩
  subst e
  have hp : preB bd v ts = true := hp
  unfold preB at hp
  simp only [Bool.and_eq_true, decide_eq_true_eq, List.all_eq_true] at hp
  obtain ⟨⟨⟨⟨hv0, hv1⟩, hb⟩, ht0⟩, hl⟩ := hp
  match vs', ha with
  | [v0, v1, v2], ⟨e0, ⟨hc, hr⟩, a1, a2, _⟩ =>
  have hfr := hfr rfl
  obtain rfl := a1.int
  obtain ⟨eb, vs, ee, _, hbox, h9, hcells⟩ := hc
  have h9 : vs.length = 9 := h9
  have hRd := hr 0 (by decide)
  have hRb := hr 1 (by decide)
  have hRr := hr 2 (by decide)
  have hRc := hr 3 (by decide)
  obtain ⟨x2, g2, _, r2⟩ := hcells 2 (show 2 < 9 by decide)
  obtain ⟨x8, g8, _, r8⟩ := hcells 8 (show 8 < 9 by decide)
  have r2 : x2 = hd0 2 := r2
  have r8 : x8 = hd0 4 := r8
  subst r2 r8
  obtain ⟨csb, ob, eb'⟩ := (show ∃ cs, w.ownsRow 0 3 1 (hd0 2) bd.length cs ∧ Els (ICs (rho.on V) _ w I64) cs bd from hRb)
  obtain ⟨csc, oc, ec'⟩ := (show ∃ cs, w.ownsRow 0 3 1 (hd0 4) k.length cs ∧ Els (ICs (rho.on V) _ w I64) cs k from hRc)
  have eb2 : csb = bd.map (Value.int .i64) := by rw [els_flat (enc := fun x : Int => [Value.int .i64 x]) (fun _ _ h => h) eb', flat_one]
  have ec2 : csc = k.map (Value.int .i64) := by rw [els_flat (enc := fun x : Int => [Value.int .i64 x]) (fun _ _ h => h) ec', flat_one]
  subst eb2 ec2
  have hblk : ∀ i, i < 5 → ∀ b, blk (hd0 i) = some b → b < w.heap.size := fun i hi b hb => by
    match i, hi with
    | 0, _ => rw [ee] at hb; have : eb = b := by simpa [blk] using hb
              subst this; exact (Array.getElem?_eq_some_iff.1 hbox).1
    | 1, _ => exact (hRd.blk_ge hb).2
    | 2, _ => exact (hRb.blk_ge hb).2
    | 3, _ => exact (hRr.blk_ge hb).2
    | 4, _ => exact (hRc.blk_ge hb).2
  obtain ⟨bb, bc, hbv⟩ : ∃ bb bc, hd0 2 = .slice (some ⟨bb, 0, none⟩) bd.length bc := by
    rcases ob.2 with ⟨_, h0⟩ | ⟨g, cap, cur, h1, _⟩
    · omega
    · exact ⟨g, cap, h1⟩
  obtain ⟨A, cc, hcv⟩ : ∃ A cc, hd0 4 = .slice A k.length cc := (show OI w 0 (hd0 4) k from oc).form.2
  obtain ⟨cs0, e2, A2, c2, es, e3, h3, h4, h5, h6⟩ := (show ∃ cs, v2 = pack (.list I64) cs ∧ ICs (rho.on V) _ w (.list I64) cs ts from a2)
  subst e3 e2
  have e : es = ts.map (Value.int .i64) := (els_flat (enc := fun x : Int => [Value.int .i64 x]) (fun _ _ h => h) h5).trans (flat_one (fun x : Int => Value.int .i64 x) ts)
  subst e
  obtain ⟨vn, rfl⟩ := Int.eq_ofNat_of_zero_le hv0
  have hvn : vn < bd.length := by omega
  have hbm := hb _ (List.getElem_mem hvn)
  obtain ⟨old, hold⟩ := Int.eq_ofNat_of_zero_le hbm.1
  have hod : bd[vn]? = some (old : Int) := by rw [List.getElem?_eq_getElem hvn, hold]
  have hod2 : bd.getD ((vn : Int)).toNat 0 = (old : Int) := by rw [Int.toNat_natCast, List.getD_eq_getElem?_getD, hod]; rfl
  have n02 : bb ≠ eb := fun h => hap 2 0 (show 2 < 5 by decide) (show 0 < 5 by decide) (by decide) bb (by rw [hbv]; rfl) (by rw [ee, h]; rfl)
  have hU : ∀ b, b < w.heap.size → (b = eb ∨ ∃ a, A = some a ∧ b = a.block) → Us U0 5 hd0 b := fun b _ hb => by
    rcases hb with rfl | ⟨a, ha, rfl⟩
    · exact .inr ⟨0, by decide, by rw [ee]; rfl⟩
    · exact .inr ⟨4, by decide, by rw [hcv, ha]; rfl⟩
  have e0 : v0 = hd0 0 := e0
  rw [e0, ee]
  change Calls Tryd.prog 60 #[.pointer (some ⟨eb, 0, none⟩), .int .i64 (vn : Int), pack (.list I64) [.slice A2 ts.length c2]] w _
  refine (hE_any w hbox h9 (hbv ▸ g2) (hcv ▸ g8) (hbv ▸ ob) (hcv ▸ oc) n02 (fun a ha => ?_) (fun a ha => ?_) (vT := pack (.list I64) [.slice A2 ts.length c2]) (tA := A2) (tc := c2) (ts := ts) rfl (fun hp => ?_) hvn old hod (by omega) ht0 (fun x hx => (hb x hx).1) hl).mono ?_
  · exact fun h => hap 4 0 (show 4 < 5 by decide) (show 0 < 5 by decide) (by decide) a.block (by rw [hcv, ha]; rfl) (by rw [ee, h]; rfl)
  · exact fun h => hap 4 2 (show 4 < 5 by decide) (show 2 < 5 by decide) (by decide) a.block (by rw [hcv, ha]; rfl) (by rw [hbv, h]; rfl)
  · obtain ⟨ab, ao, e1, h9'⟩ := h6 hp
    exact ⟨ab, ao, e1, fun w' hw' j hj => h9' w' (hw'.mono hU) j (Nat.lt_of_lt_of_eq hj (List.length_map ..).symm)⟩
  · rintro e w' ⟨g, cap, rfl, hW, hor⟩
    have hgl : ∀ b, b < w.heap.size → b = g → blk (hd0 4) = some b := fun b hb hbg => by
      rcases hor with h | h
      · rw [hcv, h, hbg]; rfl
      · omega
    have hlen : (bins old (Hx.vals ts bd)).length = old + 1 := bins_len _ _
    refine ⟨[_], upd hd0 4 (.slice (some ⟨g, 0, none⟩) (bins old (Hx.vals ts bd)).length cap), rfl, hW.ag.mono (fun b hb q => ?_), fun i hi hf => ?_, fun i hi b hb' => ?_, ?_, ?_, ?_⟩
    · rcases q with q | q
      · exact .inr ⟨0, show 0 < 5 by decide, by rw [ee, q]; rfl⟩
      · exact .inr ⟨4, show 4 < 5 by decide, hgl b hb q⟩
    · refine upd_ne (fun h => ?_)
      subst h
      cases hf
    · by_cases h4 : i = 4
      · subst h4
        rw [upd_same] at hb'
        have : g = b := by simpa [blk] using hb'
        by_cases hlt : b < w.heap.size
        · exact .inl (hgl b hlt this.symm)
        · exact .inr (by omega)
      · rw [upd_ne h4] at hb'
        exact .inl hb'
    · intro i j hi hj hij b hbi hbj
      have hi : i < 5 := hi
      have hj : j < 5 := hj
      by_cases h4 : i = 4
      · subst h4
        rw [upd_same] at hbi
        rw [upd_ne (fun h => hij h.symm)] at hbj
        have : g = b := by simpa [blk] using hbi
        have hlt := hblk j hj b hbj
        exact hap 4 j (show 4 < 5 by decide) hj hij b (hgl b hlt this.symm) hbj
      · rw [upd_ne h4] at hbi
        by_cases h4' : j = 4
        · subst h4'
          rw [upd_same] at hbj
          have : g = b := by simpa [blk] using hbj
          have hlt := hblk i hi b hbi
          exact hap i 4 hi (show 4 < 5 by decide) hij b hbi (hgl b hlt this.symm)
        · rw [upd_ne h4'] at hbj
          exact hap i j hi hj hij b hbi hbj
    · have ht : Tr (Us U0 5 hd0) w (Us U1 5 (upd hd0 4 (.slice (some ⟨g, 0, none⟩) (bins old (Hx.vals ts bd)).length cap))) w' := Tr.of hW.ag (fun b hb q => by
        rcases q with q | q
        · exact .inr ⟨0, by decide, by rw [ee, q]; rfl⟩
        · exact .inr ⟨4, by decide, hgl b hb q⟩) (fun b hb q => by
        rcases q with q | ⟨i, hi, q⟩
        · exact .inl (hfr b q)
        · by_cases h4 : i = 4
          · subst h4
            rw [upd_same] at q
            have : g = b := by simpa [blk] using q
            exact .inr ⟨4, by decide, hgl b hb this.symm⟩
          · rw [upd_ne h4] at q
            exact .inr ⟨i, hi, q⟩)
      have hkeep : ∀ i, i < 5 → i ≠ 0 → i ≠ 4 → ∀ b, blk (hd0 i) = some b → w'.heap[b]? = w.heap[b]? ∧ 0 ≤ b := fun i hi h0 h4 b hb' => ⟨hW.ag.block b (hblk i hi b hb') (fun q => by
        rcases q with q | q
        · exact hap i 0 hi (show 0 < 5 by decide) h0 b hb' (by rw [ee, q]; rfl)
        · exact hap i 4 hi (show 4 < 5 by decide) h4 b hb' (hgl b (hblk i hi b hb') q)), Nat.zero_le _⟩
      have hod3 : cnt bd vn ts = bins old (Hx.vals ts bd) := by unfold cnt; rw [hod2]; rfl
      show MutsOk (rho.on V) (Us U1 5 (upd hd0 4 (.slice (some ⟨g, 0, none⟩) (bins old (Hx.vals ts bd)).length cap))) w' (upd hd0 4 (.slice (some ⟨g, 0, none⟩) (bins old (Hx.vals ts bd)).length cap)) ps ((l, dg, bd, dr, p, u, q, c, cnt bd vn ts, false), ()) 0
      rw [hod3]
      refine ⟨⟨⟨eb, vs.set 8 (.slice (some ⟨g, 0, none⟩) (bins old (Hx.vals ts bd)).length cap), (upd_ne (by decide)).trans ee, Nat.zero_le _, hW.box, ?_, fun i hi => ?_⟩, fun i hi => ?_⟩, trivial⟩
      · rw [List.length_set]; exact h9
      · have hi : i < 9 := hi
        by_cases h8 : i = 8
        · subst h8
          exact ⟨_, by rw [List.getElem?_set_self (by omega)], rfl, (upd_same _ _ _).symm⟩
        · obtain ⟨x, s1, s2, s3⟩ := hcells i hi
          refine ⟨x, by rw [List.getElem?_set_ne (fun h => h8 h.symm)]; exact s1, s2, RA.tr (x := atn .un (fsA fs (l, dg, bd, dr, p, u, q, c, k, dm) 1) i) ht (fun j hj => upd_ne (fun h => ?_)) s3⟩
          subst h
          match i, hi with
          | 0, _ => cases hj
          | 1, _ => exact absurd (show 4 ∈ [1] from hj) (by decide)
          | 2, _ => exact absurd (show 4 ∈ [2] from hj) (by decide)
          | 3, _ => exact absurd (show 4 ∈ [3] from hj) (by decide)
          | 4, _ => cases hj
          | 5, _ => cases hj
          | 6, _ => cases hj
          | 7, _ => cases hj
          | 8, _ => exact h8 rfl
      · have hi : i < 4 := hi
        match i, hi with
        | 0, _ =>
          have := ro_row (hd' := upd hd0 4 (.slice (some ⟨g, 0, none⟩) (bins old (Hx.vals ts bd)).length cap)) hRd (hkeep 1 (by decide) (by decide) (by decide)) (Tk.of ht)
          rw [← upd_ne (f := hd0) (n := 4) (v := .slice (some ⟨g, 0, none⟩) (bins old (Hx.vals ts bd)).length cap) (show 1 ≠ 4 by decide)] at this
          exact this
        | 1, _ =>
          have := ro_row (hd' := upd hd0 4 (.slice (some ⟨g, 0, none⟩) (bins old (Hx.vals ts bd)).length cap)) hRb (hkeep 2 (by decide) (by decide) (by decide)) (Tk.of ht)
          rw [← upd_ne (f := hd0) (n := 4) (v := .slice (some ⟨g, 0, none⟩) (bins old (Hx.vals ts bd)).length cap) (show 2 ≠ 4 by decide)] at this
          exact this
        | 2, _ =>
          have := ro_row (hd' := upd hd0 4 (.slice (some ⟨g, 0, none⟩) (bins old (Hx.vals ts bd)).length cap)) hRr (hkeep 3 (by decide) (by decide) (by decide)) (Tk.of ht)
          rw [← upd_ne (f := hd0) (n := 4) (v := .slice (some ⟨g, 0, none⟩) (bins old (Hx.vals ts bd)).length cap) (show 3 ≠ 4 by decide)] at this
          exact this
        | 3, _ =>
          show RO (rho.on V) _ w' _ 0 (.row 3 I64 (bins old (Hx.vals ts bd))) (upd hd0 4 _ 4)
          rw [upd_same]
          refine ⟨_, hW.own, ?_⟩
          have := flat_els (Q := ICs (rho.on V) (Us U1 5 (upd hd0 4 (.slice (some ⟨g, 0, none⟩) (bins old (Hx.vals ts bd)).length cap))) w' I64) (enc := fun x : Int => [Value.int .i64 x]) (fun _ => rfl) (bins old (Hx.vals ts bd))
          rw [flat_one] at this
          exact this
    · exact ⟨⟨[.int .i64 (res bd vn ts)], by unfold res; rw [hod2]; rfl, rfl⟩, trivial⟩
theorem enters : Enters Tryd.prog 60 := enters_of (fn := Tryd.f60) (by kernel_rfl) (by kernel_rfl) (by kernel_rfl)
theorem okR : Enters Tryd.prog 60 ∧ Sound Tryd.prog rho 60 sig := ⟨enters, sound⟩
end hE
end Go.Proofs.YthbojpaghbbnnaaDoor.Z
