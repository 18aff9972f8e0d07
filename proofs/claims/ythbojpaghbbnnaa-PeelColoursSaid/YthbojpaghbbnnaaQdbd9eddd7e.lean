/- A part of a claim: what its statement needs. No condition. -/
import Derived.Test.YthbojpaghbbnnaaQ636c59786e
import Derived.Test.YthbojpaghbbnnaaShelf
import Derived.Sort.OwnSortedInts
import Derived.KernelRfl
namespace Go.Proofs.Ythbojpaghbbnnaa
open Go.RowKit Go.Sort
set_option linter.unusedVariables false
def srt (xs : List Int) : List Int := xs.mergeSort fun x y => decide (x ≤ y)
theorem Sort_own (w : World) {base n : Nat} {v : Value} {xs : List Int} (h : w.ownsRow base 3 1 v n (xs.map (Value.int .i64))) (hb : xs.length < 4611686018427387904) :
    Calls Try.prog 144 #[v] w fun e w' => e = .returned (.tuple #[]) ∧ w'.ownsRow base 3 1 v n ((srt xs).map (Value.int .i64)) ∧ w.grownBy w' v.ownBlock := by
  have hn : n = xs.length := by have := h.1; simp at this; exact this.symm
  subst hn
  rcases h.2 with ⟨rfl, h0⟩ | ⟨g, cap, cur, rfl, hbase, hh, h1, h2, h3, h4⟩
  · have hx : xs = [] := List.eq_nil_of_length_eq_zero h0
    subst hx
    refine (Try.slices_Sort_int_none none 0 w).mono ?_
    rintro e w' ⟨rfl, rfl⟩
    exact ⟨rfl, by simpa [srt] using h, World.grownBy.refl _ _⟩
  · refine (Try.slices_Sort_int g 0 cap xs w (holds_of_blockI hh (by simpa using h4)) (Array.getElem?_eq_some_iff.1 hh).1 hb).mono ?_
    rintro e w' ⟨rfl, m, os, rfl⟩
    exact ⟨rfl, ownsRow_sortedI (by simp) hbase hh h1 h2 h3, grownBy_sortedI _⟩
theorem Clone_any (w : World) {lo hi : Nat} {v : Value} {xs : List Int} (h : Ints w lo hi v xs) (hb : xs.length * 8 ≤ 140737488355328) :
    Calls Try.prog 108 #[v] w fun e w' => Below w.heap.size w w' ∧ ∃ v', e = .returned v' ∧ w'.ownsRow w.heap.size 3 1 v' xs.length (xs.map (Value.int .i64)) := by
  obtain ⟨hl, A, c, rfl⟩ := h.form
  rcases Nat.eq_zero_or_pos xs.length with h0 | h0
  · have hx : xs = [] := List.eq_nil_of_length_eq_zero h0
    subst hx
    cases A with
    | none =>
      refine (Try.slices_Clone_int_nil 0 c w).mono ?_
      rintro e w' ⟨rfl, rfl⟩
      exact ⟨Below.refl _ _, _, rfl, World.ownsRow_nil _ _ _ _⟩
    | some a =>
      refine (Try.slices_Clone_int_zero a c w).mono ?_
      rintro e w' ⟨v', rfl, h1, _, h2⟩
      exact ⟨h2, v', rfl, h1⟩
  · obtain ⟨b, off, rfl, _, _, hc⟩ := h.all h0
    refine (Try.slices_Clone_int b off xs.length c xs w (Nat.le_refl _) hb (fun j hj => ?_)).mono ?_
    · rw [hc j hj, List.getD_eq_getElem?_getD, List.getElem?_eq_getElem hj]; rfl
    · rintro e w' ⟨v', rfl, h1, _, h2⟩
      rw [List.take_length] at h1
      exact ⟨h2, v', rfl, h1⟩
/-- Sorted, and of the same numbers: the same list. -/
theorem srt_eq {xs : List Int} {ys : List Nat} (h1 : xs.Nodup) (h2 : ys.Pairwise (· < ·)) (h : ∀ x, x ∈ xs ↔ ∃ y ∈ ys, x = (y : Int)) : srt xs = up ys := by
  have p1 : (srt xs).Perm xs := List.mergeSort_perm _ _
  have hn : (up ys).Nodup := nodup_map (fun a b e => by omega) (List.Pairwise.imp (fun h => Nat.ne_of_lt h) h2)
  have p2 : xs.Perm (up ys) := perm_of_mem h1 hn (fun x => by rw [h, up, List.mem_map]; exact ⟨fun ⟨y, hy, e⟩ => ⟨y, hy, e.symm⟩, fun ⟨y, hy, e⟩ => ⟨y, hy, e.symm⟩⟩)
  have s1 : (srt xs).Pairwise (fun a b => decide (a ≤ b) = true) := List.pairwise_mergeSort (by intro a b c; simp; omega) (by intro a b; simp; omega) xs
  have s2 : (up ys).Pairwise (fun a b => decide (a ≤ b) = true) := by
    unfold up
    rw [List.pairwise_map]
    exact h2.imp (fun h => by simp; omega)
  exact (p1.trans p2).eq_of_pairwise (fun a b _ _ h1 h2 => by simp at h1 h2; omega) s1 s2
end Go.Proofs.Ythbojpaghbbnnaa
namespace Go.Proofs.Ythbojpaghbbnnaa
open Go.RowKit Go.WideMaps Go.Maps
set_option linter.unusedVariables false
set_option linter.unusedSimpArgs false
/-- The graph of n vertices whose edges are told by E. -/
def Gr.ofE (n : Nat) (E : List (Int × Int)) : Gr := ⟨n, fun u v => decide ((((min u v : Nat) : Int), ((max u v : Nat) : Int)) ∈ E)⟩
def Edgy (n : Nat) (E : List (Int × Int)) : Prop := ∀ p ∈ E, 0 ≤ p.1 ∧ p.1 < p.2 ∧ p.2 < n
theorem ofE_ok {n : Nat} {E : List (Int × Int)} (hr : Edgy n E) (hn : n ≤ 16777216) : (Gr.ofE n E).Ok where
  symm u v := by simp only [Gr.ofE, Nat.min_comm u v, Nat.max_comm u v]
  irr u := by
    simp only [Gr.ofE, decide_eq_false_iff_not]
    intro h
    have := hr _ h
    simp only at this
    omega
  rng u v h := by
    simp only [Gr.ofE, decide_eq_true_eq] at h
    have := hr _ h
    simp only [Gr.ofE] at this ⊢
    omega
  small := hn
theorem ofE_tells {n : Nat} {E : List (Int × Int)} (hr : Edgy n E) (hd : E.Nodup) : Tells E (Gr.ofE n E) := by
  refine ⟨hd, fun a b => ⟨fun h => ?_, ?_⟩⟩
  · have := hr _ h
    simp only at this
    refine ⟨a.toNat, b.toNat, by omega, by omega, by omega, ?_⟩
    simp only [Gr.ofE, decide_eq_true_eq]
    rw [show ((min a.toNat b.toNat : Nat) : Int) = a from by omega, show ((max a.toNat b.toNat : Nat) : Int) = b from by omega]
    exact h
  · rintro ⟨u, v, rfl, rfl, hl, hk⟩
    simp only [Gr.ofE, decide_eq_true_eq] at hk
    rwa [show min u v = u from by omega, show max u v = v from by omega] at hk
theorem filled_nb {n : Nat} {E : List (Int × Int)} {T : Nat → List Int} (hr : Edgy n E) (hn : n ≤ 16777216) (h : Filled E [] n T) {i : Nat} (hi : i < n) : srt (T i) = up ((Gr.ofE n E).nb i) := by
  refine srt_eq (h i hi).1 (Gr.nb_sorted _ _) (fun x => ?_)
  rw [(h i hi).2]
  simp only [List.not_mem_nil, not_false_eq_true, and_true]
  have hG := ofE_ok hr hn
  have ht : ∀ a b : Int, (a, b) ∈ E → 0 ≤ a ∧ a < b ∧ b < n := fun a b h => hr _ h
  constructor
  · rintro (k | k)
    · have := ht _ _ k
      refine ⟨x.toNat, (Gr.mem_nb hG).2 ?_, by omega⟩
      simp only [Gr.ofE, decide_eq_true_eq]
      rw [show ((min i x.toNat : Nat) : Int) = i from by omega, show ((max i x.toNat : Nat) : Int) = x from by omega]
      exact k
    · have := ht _ _ k
      refine ⟨x.toNat, (Gr.mem_nb hG).2 ?_, by omega⟩
      simp only [Gr.ofE, decide_eq_true_eq]
      rw [show ((min i x.toNat : Nat) : Int) = x from by omega, show ((max i x.toNat : Nat) : Int) = i from by omega]
      exact k
  · rintro ⟨y, hy, rfl⟩
    have := (Gr.mem_nb hG).1 hy
    simp only [Gr.ofE, decide_eq_true_eq] at this
    have h2 := ht _ _ this
    rcases Nat.lt_trichotomy i y with h3 | h3 | h3
    · left
      rwa [show min i y = i from by omega, show max i y = y from by omega] at this
    · omega
    · right
      rwa [show min i y = y from by omega, show max i y = i from by omega] at this
theorem RowsAt.sorted {w w' : World} {base tb n i : Nat} {T : Nat → List Int} {vs : List Value} {x : Value} (h : RowsAt w base tb n T vs)
    (hx : vs[i]? = some x) (htb : tb < base) (hg : w.grownBy w' x.ownBlock) (hown : w'.ownsRow base 3 1 x (T i).length ((srt (T i)).map (Value.int .i64))) (hi : i < n) :
    RowsAt w' base tb n (fun k => if k = i then srt (T i) else T k) vs := by
  obtain ⟨h1, h2, h3, h4⟩ := h
  obtain ⟨x', e, hxo⟩ := h3 i hi
  rw [hx] at e
  cases e
  refine ⟨h1, (hg.block tb (Array.getElem?_eq_some_iff.1 h2).1 (fun e => by have := hxo.lt tb e.symm; omega)).trans h2, fun k hk => ?_, h4⟩
  by_cases hki : k = i
  · subst hki
    refine ⟨x, hx, ?_⟩
    simp only [if_true]
    have : (srt (T k)).length = (T k).length := by simp [srt]
    rw [this]
    exact hown
  · obtain ⟨z, hz, hzo⟩ := h3 k hk
    refine ⟨z, hz, ?_⟩
    simp only [if_neg hki]
    exact hzo.kept hg (h4 k i z x hki hz hx)
/-- The loop over the map. -/
structure OfInv (w : World) (n m gb tb r base : Nat) (E : List (Int × Int)) (wr : World) (L : List (Int × Int)) (T : Nat → List Int) : Prop where
  bel : Below w.heap.size w wr
  rng : Rng wr m r L
  gbk : wr.heap[gb]? = some (.cells #[.int .i64 (n : Int), .map (some m), .slice (some ⟨tb, 0, none⟩) n n] 119 (0, 0))
  sub : ∀ p ∈ L, p ∈ E
  le : base ≤ wr.heap.size
  rows : OwnRows wr base tb n T
  fill : Filled E L n T
theorem rows_start {w1 : World} {b base n : Nat} (hb : b < base) (h : w1.ownsRow b 25 1 (.slice (some ⟨b, 0, none⟩) n n) n (List.replicate n (.slice none 0 0))) : OwnRows w1 base b n (fun _ => []) := by
  rcases h.2 with ⟨h', _⟩ | ⟨g, cap, cur, h', _, hh, h1, h2, h3, h4⟩
  · cases h'
  · injection h' with e1 e2 e3
    injection e1 with e1
    injection e1 with e1
    subst e1
    subst e3
    refine ⟨List.replicate n (.slice none 0 0), by simp, ?_, fun i hi => ⟨.slice none 0 0, by simp [List.getElem?_replicate, hi], World.ownsRow_nil _ _ _ _⟩, fun i j x y _ hx _ => ?_⟩
    · rw [hh]
      have : cur.toList = List.replicate n (.slice none 0 0) := by rw [← h4, List.take_of_length_le (by simp [h3])]
      rw [← this]
    · left
      have := List.mem_of_getElem? hx
      rw [List.eq_of_mem_replicate this]
      rfl
end Go.Proofs.Ythbojpaghbbnnaa
namespace Go.Proofs.Ythbojpaghbbnnaa
open Go.RowKit Go.WideMaps Go.Maps
set_option linter.unusedVariables false
set_option linter.unusedSimpArgs false
set_option maxRecDepth 100000 in
set_option maxHeartbeats 4000000 in
theorem of_any (w : World) (n : Nat) (hn : n ≤ 16777216) (m lo : Nat) (E : List (Int × Int)) (hE : EMap w m E) (hr : Edgy n E) (hlo : lo ≤ m) :
    Calls Try.prog 109 #[.int .i64 (n : Int), .map (some m)] w fun e w' => Below w.heap.size w w' ∧ ∃ v, e = .returned v ∧ PG w' lo w'.heap.size v (Gr.ofE n E) := by
  have HE := Lib.hid hE
  have HR := Lib.hid hr
  clear hE hr
  have hm := HE.out.lt
  obtain ⟨i0, hi, hz0, hz1, hz2⟩ := info_parts infoInt
  have HI : Hid (Try.prog.info? 3 = some i0 ∧ i0.zero = some (.int .i64 0) ∧ i0.size = 1 ∧ i0.bytes = 8) := ⟨hi, hz0, hz1, hz2⟩
  clear hi hz0 hz1 hz2
  go_enter Try.func109, Try.ntmps109
  go_wp2_with (first
    | (at_make; refine mk_full (W := w) w.heap.size rfl (.tmp 11) (.tmp 11) 75 25 _ 24 rfl Try.underlying75 infoInts rfl (by decide) _ _ n rfl rfl rfl rfl (by omega) (Nat.le_refl _) ?_; intro w1 hown hgr)
    | (at_range; refine wpl_range rfl (.tmp 15) rfl m (w1.heap.size + 1) (by simp) rfl (HE.out.frame ((Below.heap_alloc _ _ _ (Nat.lt_of_lt_of_le hm hgr.size)).trans (hgr.block m hm (by simp)))) ?_; intro w2 hrg hg2 hs2))
  go_frame
  have hlt1 : w.heap.size < w1.heap.size := (hown.lt _ rfl).2
  go_loopg [6] E.length (fun k s wr => ∃ L T, Hid (L.length = k) ∧ OfInv w n m w1.heap.size w.heap.size (w1.heap.size + 1) (w1.heap.size + 2) E wr L T)
  case atStart =>
    refine ⟨E, fun _ => [], rfl, ?_, hrg, ?_, fun p hp => hp, by omega, ?_, filled_start E n⟩
    · exact (((Below.refl _ _).grown hgr (Nat.le_refl _) (by simp)).alloc hgr.size _).grown hg2 (by simp; omega) (by simp)
    · exact (hg2.block w1.heap.size (by simp) (by simp)).trans (heap_alloc_new _ _)
    · exact ((rows_start (base := w1.heap.size + 2) (by omega) hown).kept (World.grownBy_alloc _ _ none) (by simp) (by simp)).kept hg2 (by simp) (by simp)
  case round =>
    obtain ⟨L, T, HL, HV⟩ := hrel
    have hrg1 := HV.rng
    have hbs := HV.le
    have hbel := HV.bel
    have HV' := Lib.hid HV
    clear HV hrg hs2 hown
    go_wp2_with (at_next; refine wpl_next rfl (.tmp 16) rfl m (w1.heap.size + 1) rfl hrg1 ?_ ?_)
    · intro hL
      subst hL
      obtain ⟨wo, rfl⟩ : ∃ wo : World, wo = wr := ⟨_, rfl⟩
      have k2 := cell_of HV'.out.gbk 2
      have HF : Hid (Filled E [] n T) := HV'.out.fill
      have hbase := HV'.out.le
      go_wp2
      go_loopg [64] n (fun k s wx => ∃ q : Nat, k + q = n ∧ s = .int .i64 q ∧ Hid (Below w.heap.size w wx ∧ OwnRows wx (w1.heap.size + 2) w.heap.size n (fun j => if j < q then srt (T j) else T j) ∧ wx.heap[w1.heap.size]? = some (.cells #[.int .i64 (n : Int), .map (some m), .slice (some ⟨w.heap.size, 0, none⟩) n n] 119 (0, 0)) ∧ w1.heap.size + 2 ≤ wx.heap.size))
      case atStart =>
        refine ⟨0, rfl, rfl, HV'.out.bel, ?_, HV'.out.gbk, HV'.out.le⟩
        simpa using HV'.out.rows
      case round =>
        obtain ⟨q, hq, rfl, HX⟩ := hrel
        have HQ := Lib.hid hq
        clear hq k2
        by_cases hlt : q < n
        · obtain ⟨hb, ⟨vs, hR⟩, hg1, hle⟩ := HX.out
          obtain ⟨x, hx, hxo⟩ := hR.2.2.1 q hlt
          have t0 : wr.cell? ⟨w.heap.size, q, none⟩ = some x := by rw [cell_of hR.2.1 q]; simpa using hx
          have hlen : (T q).length < 4611686018427387904 := by have := HF.out.bound HR.out hlt; omega
          have hxo' : wr.ownsRow (w1.heap.size + 2) 3 1 x (T q).length ((T q).map (Value.int .i64)) := by simpa using hxo
          have HO := Lib.hid hxo'
          have HR' := Lib.hid hR
          have HX' := Lib.hid hx
          have HG := Lib.hid hg1
          have HB := Lib.hid hb
          clear hxo hxo' hR hx hg1 hb HX
          go_wp2_with (go_at_call 144; refine (Sort_own _ HO.out hlen).mono ?_; rintro e w' ⟨rfl, ho, hg⟩; have HO1 := Lib.hid ho; have HG1 := Lib.hid hg; clear ho hg)
          go_roundg (n - (q + 1))
          case measure => have := HQ.out; omega
          case rel =>
            have xb := HO.out.lt
            refine ⟨q + 1, by omega, by go_num, HB.out.grown HG1.out HB.out.size (fun c hc => by have := (xb c hc).1; omega), ?_, (HG1.out.block _ (by omega) (fun e => by have := (xb _ e.symm).1; omega)).trans HG.out, Nat.le_trans hle HG1.out.size⟩
            have h := HR'.out.sorted (i := q) (w' := w') HX'.out (by omega) HG1.out (by simpa using HO1.out) hlt
            refine ⟨vs, ?_⟩
            have e : (fun j => if j < q + 1 then srt (T j) else T j) = (fun k => if k = q then srt ((fun j => if j < q then srt (T j) else T j) q) else (fun j => if j < q then srt (T j) else T j) k) := by
              funext k
              by_cases h1 : k = q
              · subst h1; simp
              · by_cases h2 : k < q
                · simp [h1, h2, show k < q + 1 from by omega]
                · simp [h1, h2, show ¬ k < q + 1 from by omega]
            rw [e]
            exact h
        · have hqn : q = n := by have := HQ.out; omega
          obtain ⟨hb, ⟨vs, hR⟩, hg1, hle⟩ := HX.out
          have HR' := Lib.hid hR
          have HG := Lib.hid hg1
          have HB := Lib.hid hb
          clear hR hg1 hb HX
          go_wp2
          go_ret
          refine ⟨HB.out, _, rfl, ofE_ok HR.out hn, Nat.le_refl _, w1.heap.size, m, some ⟨w.heap.size, 0, none⟩, n, E, rfl, by omega, by omega, HG.out, hlo, by have := HB.out.size; omega, HE.out.frame (HB.out.block m hm), ofE_tells HR.out HE.out.nodup, ?_⟩
          have h := HR'.out.rows2 (lo := lo) (by omega) (by omega) hn
          obtain ⟨us, h1, h2⟩ := h
          refine ⟨us, h1, fun k hk => ?_⟩
          obtain ⟨x, hx, hxi⟩ := h2 k hk
          refine ⟨x, hx, ?_⟩
          have hk' : k < n := hk
          have e : (fun j => if j < q then srt (T j) else T j) k = up ((Gr.ofE n E).nb k) := by
            simp only [if_pos (show k < q from by omega)]
            exact filled_nb HR.out hn HF.out hk'
          rw [e] at hxi
          exact hxi
    · intro a b w3 hp hrg3 hg3 hs3 hen
      obtain ⟨hp0, hp1, hp2⟩ := HR.out (a, b) (HV'.out.sub _ hp)
      simp only at hp0 hp1 hp2
      obtain ⟨i, rfl⟩ := Int.eq_ofNat_of_zero_le hp0
      obtain ⟨j, rfl⟩ := Int.eq_ofNat_of_zero_le (Int.le_trans hp0 (Int.le_of_lt hp1))
      have hij : i < j := by omega
      have hjn : j < n := by omega
      have hin : i < n := by omega
      clear hp0 hp1 hp2
      obtain ⟨vs, R3'⟩ := HV'.out.rows.kept hg3 (by intro e; injection e; omega) (fun k e => by injection e; omega)
      have R3 := Lib.hid R3'
      clear R3'
      have G3 : Hid (w3.heap[w1.heap.size]? = some (.cells #[.int .i64 (n : Int), .map (some m), .slice (some ⟨w.heap.size, 0, none⟩) n n] 119 (0, 0))) := (hg3.block w1.heap.size (by omega) (by intro e; injection e; omega)).trans HV'.out.gbk
      have B3 : Hid (Below w.heap.size w w3) := hbel.grown hg3 hbel.size (fun k e => by injection e; omega)
      have HP := Lib.hid hp
      have H3 := Lib.hid hg3
      have HR3 := Lib.hid hrg3
      have b5 : w.heap.size < w3.heap.size := by omega
      have b6 : w1.heap.size < w3.heap.size := by omega
      have b7 : w1.heap.size + 2 ≤ w3.heap.size := by omega
      clear hp hg3 hs3 hrg3 hgr hg2 hrg1 hbs hbel
      unfold kv at hen ⊢
      go_wp2
      obtain ⟨W5, hW5⟩ : ∃ W, W = w3.alloc (.cells #[.int .i64 (i : Int), .int .i64 (j : Int)] 121) := ⟨_, rfl⟩
      rw [← hW5]
      have R5 : Hid (RowsAt W5 (w1.heap.size + 2) w.heap.size n T vs) := by rw [hW5]; exact R3.out.kept (World.grownBy_alloc _ _ none) (by simp) (by simp)
      have G5 : Hid (W5.heap[w1.heap.size]? = some (.cells #[.int .i64 (n : Int), .map (some m), .slice (some ⟨w.heap.size, 0, none⟩) n n] 119 (0, 0))) := by rw [hW5]; exact (Below.heap_alloc _ _ _ b6).trans G3.out
      have E5 : Hid (W5.heap[w3.heap.size]? = some (.cells #[.int .i64 (i : Int), .int .i64 (j : Int)] 121 (0, 0))) := by rw [hW5]; exact heap_alloc_new _ _
      have B5 : Hid (Below w.heap.size w W5) := by rw [hW5]; exact B3.out.alloc B3.out.size _
      have S5 : Hid (Rng W5 m (w1.heap.size + 1) (less L ((i : Int), (j : Int)))) := by
        have h := HR3.out
        rw [hW5]
        exact h.frame (Below.heap_alloc _ _ _ h.lt.1) (Below.heap_alloc _ _ _ h.lt.2)
      have b8 : W5.heap.size = w3.heap.size + 1 := by rw [hW5]; simp
      have H8 := Lib.hid b8
      have b9 : w3.heap.size < W5.heap.size := by omega
      clear hW5 b8
      -- row i gets j
      obtain ⟨x0, x0x, x0o⟩ := R5.out.2.2.1 i (by omega)
      have x0b := x0o.lt
      have x0l : ∀ c, x0.ownBlock = some c → c < w3.heap.size := by
        obtain ⟨y, hy, hyo⟩ := R3.out.2.2.1 i (by omega)
        have : some y = some x0 := by rw [← hy, ← x0x]
        cases this
        exact fun c hc => (hyo.lt c hc).2
      have q0g : some w1.heap.size ≠ x0.ownBlock := fun e => by have := x0b _ e.symm; omega
      have q0t : some w.heap.size ≠ x0.ownBlock := fun e => by have := x0b _ e.symm; omega
      have q0e : some w3.heap.size ≠ x0.ownBlock := fun e => by have := x0l _ e.symm; omega
      have k0 := cell_of G5.out 2
      have e0 := cell_of E5.out 0
      have e1 := cell_of E5.out 1
      have t0 : W5.cell? ⟨w.heap.size, i, none⟩ = some x0 := by rw [cell_of R5.out.2.1 i]; simpa using x0x
      have f0 := free_of R5.out.2.1 i
      have wl : w.heap.size < W5.heap.size := by omega
      have wl1 : w1.heap.size < W5.heap.size := by omega
      have hln : (T i).length ≤ 16777216 := (by have := HV'.out.fill.bound HR.out hin; omega)
      have XO0 := Lib.hid x0o
      have XX0 := Lib.hid x0x
      have QG0 := Lib.hid q0g
      have QT0 := Lib.hid q0t
      have QE0 := Lib.hid q0e
      clear x0o x0x x0b x0l q0g q0t q0e
      refine region_T (by kernel_rfl) (fun w' => w'.cell? ⟨w1.heap.size, 2, none⟩ = some (.slice (some ⟨w.heap.size, 0, none⟩) n n) ∧ w'.cell? ⟨w3.heap.size, 0, none⟩ = some (.int .i64 (i : Int)) ∧ w'.cell? ⟨w3.heap.size, 1, none⟩ = some (.int .i64 (j : Int)) ∧ w'.cell? ⟨w.heap.size, i, none⟩ = some x0) 19 ⟨k0, e0, e1, t0⟩ (fun HS => ?_)
      change anyT _ _ _ _ _ _ 20 _ _ _
      refine takeT (i := 0) (v := ?_) rfl rfl (by kernel_rfl) (fun _ _ _ h => h) rfl ?_ HS ?_
      rotate_left
      · intro w' hS'
        obtain ⟨s0, s1, s2, s3⟩ := hS'
        go_simp
        rfl
      rotate_left
      go_frame
      refine takeT (i := 1) (v := ?_) rfl rfl (by kernel_rfl) (fun _ _ _ h => h) rfl ?_ HS ?_
      rotate_left
      · intro w' hS'
        obtain ⟨s0, s1, s2, s3⟩ := hS'
        go_simp
        rfl
      rotate_left
      go_frame
      refine takeT (i := 2) (v := ?_) rfl rfl (by kernel_rfl) (fun _ _ _ h => h) rfl ?_ HS ?_
      rotate_left
      · intro w' hS'
        obtain ⟨s0, s1, s2, s3⟩ := hS'
        go_simp
        rfl
      rotate_left
      go_frame
      refine takeT (i := 3) (v := ?_) rfl rfl (by kernel_rfl) (fun _ _ _ h => h) rfl ?_ HS ?_
      rotate_left
      · intro w' hS'
        obtain ⟨s0, s1, s2, s3⟩ := hS'
        go_simp
        rfl
      rotate_left
      go_frame
      refine takeT (i := 4) (v := ?_) rfl rfl (by kernel_rfl) (fun _ _ _ h => h) rfl ?_ HS ?_
      rotate_left
      · intro w' hS'
        obtain ⟨s0, s1, s2, s3⟩ := hS'
        go_simp
        rfl
      rotate_left
      go_frame
      refine takeT (i := 5) (v := ?_) rfl rfl (by kernel_rfl) (fun _ _ _ h => h) rfl ?_ HS ?_
      rotate_left
      · intro w' hS'
        obtain ⟨s0, s1, s2, s3⟩ := hS'
        go_simp
        rfl
      rotate_left
      go_frame
      refine takeT (i := 6) (v := ?_) rfl rfl (by kernel_rfl) (fun _ _ _ h => h) rfl ?_ HS ?_
      rotate_left
      · intro w' hS'
        obtain ⟨s0, s1, s2, s3⟩ := hS'
        go_simp
        rfl
      rotate_left
      go_frame
      refine takeT (i := 7) (v := ?_) rfl rfl (by kernel_rfl) (fun _ _ _ h => h) rfl ?_ HS ?_
      rotate_left
      · intro w' hS'
        obtain ⟨s0, s1, s2, s3⟩ := hS'
        go_simp
        rfl
      rotate_left
      go_frame
      refine takeT (i := 8) (v := ?_) rfl rfl (by kernel_rfl) (fun _ _ _ h => h) rfl ?_ HS ?_
      rotate_left
      · intro w' hS'
        obtain ⟨s0, s1, s2, s3⟩ := hS'
        go_simp
        rfl
      rotate_left
      go_frame
      refine takeT (i := 9) (v := ?_) rfl rfl (by kernel_rfl) (fun _ _ _ h => h) rfl ?_ HS ?_
      rotate_left
      · intro w' hS'
        obtain ⟨s0, s1, s2, s3⟩ := hS'
        go_simp
        rfl
      rotate_left
      go_frame
      refine takeT (i := 10) (v := ?_) rfl rfl (by kernel_rfl) (fun _ _ _ h => h) rfl ?_ HS ?_
      rotate_left
      · intro w' hS'
        obtain ⟨s0, s1, s2, s3⟩ := hS'
        go_simp
        rfl
      rotate_left
      go_frame
      refine takeT (i := 11) (v := ?_) rfl rfl (by kernel_rfl) (fun _ _ _ h => h) rfl ?_ HS ?_
      rotate_left
      · intro w' hS'
        obtain ⟨s0, s1, s2, s3⟩ := hS'
        go_simp
        rfl
      rotate_left
      go_frame
      refine takeT (i := 12) (v := ?_) rfl rfl (by kernel_rfl) (fun _ _ _ h => h) rfl ?_ HS ?_
      rotate_left
      · intro w' hS'
        obtain ⟨s0, s1, s2, s3⟩ := hS'
        go_simp
        rfl
      rotate_left
      go_frame
      refine takeT (i := 13) (v := ?_) rfl rfl (by kernel_rfl) (fun _ _ _ h => h) rfl ?_ HS ?_
      rotate_left
      · intro w' hS'
        obtain ⟨s0, s1, s2, s3⟩ := hS'
        go_simp
        rfl
      rotate_left
      go_frame
      refine takeT (i := 14) (v := ?_) rfl rfl (by kernel_rfl) (fun _ _ _ h => h) rfl ?_ HS ?_
      rotate_left
      · intro w' hS'
        obtain ⟨s0, s1, s2, s3⟩ := hS'
        go_simp
        rfl
      rotate_left
      go_frame
      refine takeT (i := 15) (v := ?_) rfl rfl (by kernel_rfl) (fun _ _ _ h => h) rfl ?_ HS ?_
      rotate_left
      · intro w' hS'
        obtain ⟨s0, s1, s2, s3⟩ := hS'
        go_simp
        rfl
      rotate_left
      go_frame
      refine oneT (i := 16) rfl (by kernel_rfl) (fun K hK => ?_)
      go_simp
      refine hK.out _ _ (fun _ => ?_) ?_
      · exact ⟨(World.cell?_of_block (w := W5) (Below.heap_alloc W5 _ _ wl1)).trans k0, (World.cell?_of_block (w := W5) (Below.heap_alloc W5 _ _ b9)).trans e0, (World.cell?_of_block (w := W5) (Below.heap_alloc W5 _ _ b9)).trans e1, (World.cell?_of_block (w := W5) (Below.heap_alloc W5 _ _ wl)).trans t0⟩
      clear hK K
      refine oneT (i := 17) rfl (by kernel_rfl) (fun K hK => ?_)
      refine step_append_lies _ (by rfl) (.tmp 34) (.tmp 37) 25 (by rfl) (w1.heap.size + 2) 3 i0 (.int .i64 0) 1 8 Try.underlying25 HI.out.1 HI.out.2.1 HI.out.2.2.1 HI.out.2.2.2 rfl (by decide) x0 _ _ (by rfl) (XO0.out.alloc _).drew ⟨W5.heap.size, 0, none⟩ 1 1 [.int .i64 (j : Int)] (by rfl) rfl (World.news_of_block (cs := #[.int .i64 (j : Int)]) (t := 3) (fr := (0, 0)) (heap_alloc_new W5 _)) (by simp [Value.oneCell']) (by decide) (by unfold maxLen; omega) (by omega) (by simp; omega) (W5.heap.size + 1) (by simp) ?_
      intro g0 cap0 V0 hown0 hg0 hat0 hlt0
      have k0' := far_cell hg0 k0 QG0.out
      have e0' := far_cell hg0 e0 QE0.out
      have e1' := far_cell hg0 e1 QE0.out
      have t0' := far_cell hg0 t0 QT0.out
      have f0' := (far_frozen hg0 (a := ⟨w.heap.size, i, none⟩) wl QT0.out).trans f0
      refine hK.out _ _ (fun _ => ⟨k0', e0', e1', t0'⟩) ?_
      clear hK K
      have HS0 : (fun w' : World => w'.cell? ⟨w1.heap.size, 2, none⟩ = some (.slice (some ⟨w.heap.size, 0, none⟩) n n) ∧ w'.cell? ⟨w3.heap.size, 0, none⟩ = some (.int .i64 (i : Int)) ∧ w'.cell? ⟨w3.heap.size, 1, none⟩ = some (.int .i64 (j : Int)) ∧ w'.cell? ⟨w.heap.size, i, none⟩ = some x0) V0 := ⟨k0', e0', e1', t0'⟩
      go_frame
      refine takeT (i := 18) (v := ?_) rfl rfl (by kernel_rfl) (fun _ _ _ h => h) rfl ?_ HS0 ?_
      rotate_left
      · intro w' hS'
        obtain ⟨s0, s1, s2, s3⟩ := hS'
        go_simp
        rfl
      rotate_left
      go_frame
      refine oneT (i := 19) rfl (by kernel_rfl) (fun K hK => ?_)
      go_simp
      refine hK.out _ _ (fun h => absurd rfl h) ?_
      clear hK K
      refine doneT (by kernel_rfl) ?_ 0
      obtain ⟨W7, hW7⟩ : ∃ W, W = V0.setCell ⟨w.heap.size, i, none⟩ (.slice (some ⟨g0, 0, none⟩) ((T i).length + 1) cap0) := ⟨_, rfl⟩
      rw [← hW7]
      have R7 := Lib.hid (R5.out.app (y := (j : Int)) (by omega) XX0.out (by omega) (by omega) hg0 hown0 hat0)
      rw [← hW7] at R7
      have fb : ∀ c, c < W5.heap.size → some c ≠ x0.ownBlock → c ≠ w.heap.size → W7.heap[c]? = W5.heap[c]? := fun c h1 h2 h3 => by rw [hW7]; exact (Below.heap_setCell _ _ _ _ h3).trans (far_block hg0 h1 h2)
      have G7 : Hid (W7.heap[w1.heap.size]? = some (.cells #[.int .i64 (n : Int), .map (some m), .slice (some ⟨w.heap.size, 0, none⟩) n n] 119 (0, 0))) := (fb _ wl1 QG0.out (by omega)).trans G5.out
      have E7 : Hid (W7.heap[w3.heap.size]? = some (.cells #[.int .i64 (i : Int), .int .i64 (j : Int)] 121 (0, 0))) := (fb _ b9 QE0.out (by omega)).trans E5.out
      have hvs : W5.heap.size ≤ V0.heap.size := by have := hg0.size; simp at this; omega
      have B7 : Hid (Below w.heap.size w W7) := by
        rw [hW7]
        exact ((((B5.out.alloc B5.out.size _).drew).grown hg0 (by simp; omega) (fun c hc => by have := (XO0.out.lt c hc).1; omega))).setCell (by simp) _
      have S7 : Hid (Rng W7 m (w1.heap.size + 1) (less L ((i : Int), (j : Int)))) := by
        have h := S5.out
        exact h.frame (fb _ h.lt.1 (fun e => by have := (XO0.out.lt _ e.symm).1; omega) (by omega)) (fb _ h.lt.2 (fun e => by have := (XO0.out.lt _ e.symm).1; omega) (by omega))
      have hsz7 : W5.heap.size ≤ W7.heap.size := by rw [hW7, size_setCell]; exact hvs
      have b9 : w3.heap.size < W7.heap.size := by omega
      clear hW7 fb k0 e0 e1 t0 f0 k0' e0' e1' t0' f0' wl wl1 hvs hg0 hown0 hat0 hlt0 HS HS0 hln
      obtain ⟨T7, hT7⟩ : ∃ T7 : Nat → List Int, T7 = fun k => if k = i then T i ++ [(j : Int)] else T k := ⟨_, rfl⟩
      rw [← hT7] at R7
      have HT7 := Lib.hid hT7
      clear hT7
      go_wp2
      -- row j gets i
      obtain ⟨x1, x1x, x1o⟩ := R7.out.2.2.1 j (by omega)
      have x1b := x1o.lt
      have x1l : ∀ c, x1.ownBlock = some c → c < w3.heap.size := by
        obtain ⟨y, hy, hyo⟩ := R3.out.2.2.1 j (by omega)
        have : some y = some x1 := by rw [← hy, ← x1x, List.getElem?_set_ne (by omega)]
        cases this
        exact fun c hc => (hyo.lt c hc).2
      have q1g : some w1.heap.size ≠ x1.ownBlock := fun e => by have := x1b _ e.symm; omega
      have q1t : some w.heap.size ≠ x1.ownBlock := fun e => by have := x1b _ e.symm; omega
      have q1e : some w3.heap.size ≠ x1.ownBlock := fun e => by have := x1l _ e.symm; omega
      have k0 := cell_of G7.out 2
      have e0 := cell_of E7.out 0
      have e1 := cell_of E7.out 1
      have t0 : W7.cell? ⟨w.heap.size, j, none⟩ = some x1 := by rw [cell_of R7.out.2.1 j]; simpa using x1x
      have f0 := free_of R7.out.2.1 j
      have wl : w.heap.size < W7.heap.size := by omega
      have wl1 : w1.heap.size < W7.heap.size := by omega
      have hln : (T7 j).length ≤ 16777216 := (by have := HV'.out.fill.bound HR.out hjn; rw [HT7.out]; simp only [if_neg (show ¬ j = i from by omega)]; omega)
      have XO1 := Lib.hid x1o
      have XX1 := Lib.hid x1x
      have QG1 := Lib.hid q1g
      have QT1 := Lib.hid q1t
      have QE1 := Lib.hid q1e
      clear x1o x1x x1b x1l q1g q1t q1e
      refine region_T (by kernel_rfl) (fun w' => w'.cell? ⟨w1.heap.size, 2, none⟩ = some (.slice (some ⟨w.heap.size, 0, none⟩) n n) ∧ w'.cell? ⟨w3.heap.size, 0, none⟩ = some (.int .i64 (i : Int)) ∧ w'.cell? ⟨w3.heap.size, 1, none⟩ = some (.int .i64 (j : Int)) ∧ w'.cell? ⟨w.heap.size, j, none⟩ = some x1) 19 ⟨k0, e0, e1, t0⟩ (fun HS => ?_)
      change anyT _ _ _ _ _ _ 20 _ _ _
      refine takeT (i := 0) (v := ?_) rfl rfl (by kernel_rfl) (fun _ _ _ h => h) rfl ?_ HS ?_
      rotate_left
      · intro w' hS'
        obtain ⟨s0, s1, s2, s3⟩ := hS'
        go_simp
        rfl
      rotate_left
      go_frame
      refine takeT (i := 1) (v := ?_) rfl rfl (by kernel_rfl) (fun _ _ _ h => h) rfl ?_ HS ?_
      rotate_left
      · intro w' hS'
        obtain ⟨s0, s1, s2, s3⟩ := hS'
        go_simp
        rfl
      rotate_left
      go_frame
      refine takeT (i := 2) (v := ?_) rfl rfl (by kernel_rfl) (fun _ _ _ h => h) rfl ?_ HS ?_
      rotate_left
      · intro w' hS'
        obtain ⟨s0, s1, s2, s3⟩ := hS'
        go_simp
        rfl
      rotate_left
      go_frame
      refine takeT (i := 3) (v := ?_) rfl rfl (by kernel_rfl) (fun _ _ _ h => h) rfl ?_ HS ?_
      rotate_left
      · intro w' hS'
        obtain ⟨s0, s1, s2, s3⟩ := hS'
        go_simp
        rfl
      rotate_left
      go_frame
      refine takeT (i := 4) (v := ?_) rfl rfl (by kernel_rfl) (fun _ _ _ h => h) rfl ?_ HS ?_
      rotate_left
      · intro w' hS'
        obtain ⟨s0, s1, s2, s3⟩ := hS'
        go_simp
        rfl
      rotate_left
      go_frame
      refine takeT (i := 5) (v := ?_) rfl rfl (by kernel_rfl) (fun _ _ _ h => h) rfl ?_ HS ?_
      rotate_left
      · intro w' hS'
        obtain ⟨s0, s1, s2, s3⟩ := hS'
        go_simp
        rfl
      rotate_left
      go_frame
      refine takeT (i := 6) (v := ?_) rfl rfl (by kernel_rfl) (fun _ _ _ h => h) rfl ?_ HS ?_
      rotate_left
      · intro w' hS'
        obtain ⟨s0, s1, s2, s3⟩ := hS'
        go_simp
        rfl
      rotate_left
      go_frame
      refine takeT (i := 7) (v := ?_) rfl rfl (by kernel_rfl) (fun _ _ _ h => h) rfl ?_ HS ?_
      rotate_left
      · intro w' hS'
        obtain ⟨s0, s1, s2, s3⟩ := hS'
        go_simp
        rfl
      rotate_left
      go_frame
      refine takeT (i := 8) (v := ?_) rfl rfl (by kernel_rfl) (fun _ _ _ h => h) rfl ?_ HS ?_
      rotate_left
      · intro w' hS'
        obtain ⟨s0, s1, s2, s3⟩ := hS'
        go_simp
        rfl
      rotate_left
      go_frame
      refine takeT (i := 9) (v := ?_) rfl rfl (by kernel_rfl) (fun _ _ _ h => h) rfl ?_ HS ?_
      rotate_left
      · intro w' hS'
        obtain ⟨s0, s1, s2, s3⟩ := hS'
        go_simp
        rfl
      rotate_left
      go_frame
      refine takeT (i := 10) (v := ?_) rfl rfl (by kernel_rfl) (fun _ _ _ h => h) rfl ?_ HS ?_
      rotate_left
      · intro w' hS'
        obtain ⟨s0, s1, s2, s3⟩ := hS'
        go_simp
        rfl
      rotate_left
      go_frame
      refine takeT (i := 11) (v := ?_) rfl rfl (by kernel_rfl) (fun _ _ _ h => h) rfl ?_ HS ?_
      rotate_left
      · intro w' hS'
        obtain ⟨s0, s1, s2, s3⟩ := hS'
        go_simp
        rfl
      rotate_left
      go_frame
      refine takeT (i := 12) (v := ?_) rfl rfl (by kernel_rfl) (fun _ _ _ h => h) rfl ?_ HS ?_
      rotate_left
      · intro w' hS'
        obtain ⟨s0, s1, s2, s3⟩ := hS'
        go_simp
        rfl
      rotate_left
      go_frame
      refine takeT (i := 13) (v := ?_) rfl rfl (by kernel_rfl) (fun _ _ _ h => h) rfl ?_ HS ?_
      rotate_left
      · intro w' hS'
        obtain ⟨s0, s1, s2, s3⟩ := hS'
        go_simp
        rfl
      rotate_left
      go_frame
      refine takeT (i := 14) (v := ?_) rfl rfl (by kernel_rfl) (fun _ _ _ h => h) rfl ?_ HS ?_
      rotate_left
      · intro w' hS'
        obtain ⟨s0, s1, s2, s3⟩ := hS'
        go_simp
        rfl
      rotate_left
      go_frame
      refine takeT (i := 15) (v := ?_) rfl rfl (by kernel_rfl) (fun _ _ _ h => h) rfl ?_ HS ?_
      rotate_left
      · intro w' hS'
        obtain ⟨s0, s1, s2, s3⟩ := hS'
        go_simp
        rfl
      rotate_left
      go_frame
      refine oneT (i := 16) rfl (by kernel_rfl) (fun K hK => ?_)
      go_simp
      refine hK.out _ _ (fun _ => ?_) ?_
      · exact ⟨(World.cell?_of_block (w := W7) (Below.heap_alloc W7 _ _ wl1)).trans k0, (World.cell?_of_block (w := W7) (Below.heap_alloc W7 _ _ b9)).trans e0, (World.cell?_of_block (w := W7) (Below.heap_alloc W7 _ _ b9)).trans e1, (World.cell?_of_block (w := W7) (Below.heap_alloc W7 _ _ wl)).trans t0⟩
      clear hK K
      refine oneT (i := 17) rfl (by kernel_rfl) (fun K hK => ?_)
      refine step_append_lies _ (by rfl) (.tmp 53) (.tmp 56) 25 (by rfl) (w1.heap.size + 2) 3 i0 (.int .i64 0) 1 8 Try.underlying25 HI.out.1 HI.out.2.1 HI.out.2.2.1 HI.out.2.2.2 rfl (by decide) x1 _ _ (by rfl) (XO1.out.alloc _).drew ⟨W7.heap.size, 0, none⟩ 1 1 [.int .i64 (i : Int)] (by rfl) rfl (World.news_of_block (cs := #[.int .i64 (i : Int)]) (t := 3) (fr := (0, 0)) (heap_alloc_new W7 _)) (by simp [Value.oneCell']) (by decide) (by unfold maxLen; omega) (by omega) (by simp; omega) (W7.heap.size + 1) (by simp) ?_
      intro g1 cap1 V1 hown1 hg1 hat1 hlt1
      have k0' := far_cell hg1 k0 QG1.out
      have e0' := far_cell hg1 e0 QE1.out
      have e1' := far_cell hg1 e1 QE1.out
      have t0' := far_cell hg1 t0 QT1.out
      have f0' := (far_frozen hg1 (a := ⟨w.heap.size, j, none⟩) wl QT1.out).trans f0
      refine hK.out _ _ (fun _ => ⟨k0', e0', e1', t0'⟩) ?_
      clear hK K
      have HS1 : (fun w' : World => w'.cell? ⟨w1.heap.size, 2, none⟩ = some (.slice (some ⟨w.heap.size, 0, none⟩) n n) ∧ w'.cell? ⟨w3.heap.size, 0, none⟩ = some (.int .i64 (i : Int)) ∧ w'.cell? ⟨w3.heap.size, 1, none⟩ = some (.int .i64 (j : Int)) ∧ w'.cell? ⟨w.heap.size, j, none⟩ = some x1) V1 := ⟨k0', e0', e1', t0'⟩
      go_frame
      refine takeT (i := 18) (v := ?_) rfl rfl (by kernel_rfl) (fun _ _ _ h => h) rfl ?_ HS1 ?_
      rotate_left
      · intro w' hS'
        obtain ⟨s0, s1, s2, s3⟩ := hS'
        go_simp
        rfl
      rotate_left
      go_frame
      refine oneT (i := 19) rfl (by kernel_rfl) (fun K hK => ?_)
      go_simp
      refine hK.out _ _ (fun h => absurd rfl h) ?_
      clear hK K
      refine doneT (by kernel_rfl) ?_ 0
      obtain ⟨W9, hW9⟩ : ∃ W, W = V1.setCell ⟨w.heap.size, j, none⟩ (.slice (some ⟨g1, 0, none⟩) ((T7 j).length + 1) cap1) := ⟨_, rfl⟩
      rw [← hW9]
      have R9 := Lib.hid (R7.out.app (y := (i : Int)) hjn XX1.out (by omega) (by omega) hg1 hown1 hat1)
      rw [← hW9] at R9
      have fb : ∀ c, c < W7.heap.size → some c ≠ x1.ownBlock → c ≠ w.heap.size → W9.heap[c]? = W7.heap[c]? := fun c h1 h2 h3 => by rw [hW9]; exact (Below.heap_setCell _ _ _ _ h3).trans (far_block hg1 h1 h2)
      have G9 : Hid (W9.heap[w1.heap.size]? = some (.cells #[.int .i64 (n : Int), .map (some m), .slice (some ⟨w.heap.size, 0, none⟩) n n] 119 (0, 0))) := (fb _ wl1 QG1.out (by omega)).trans G7.out
      have E9 : Hid (W9.heap[w3.heap.size]? = some (.cells #[.int .i64 (i : Int), .int .i64 (j : Int)] 121 (0, 0))) := (fb _ b9 QE1.out (by omega)).trans E7.out
      have hvs : W7.heap.size ≤ V1.heap.size := by have := hg1.size; simp at this; omega
      have B9 : Hid (Below w.heap.size w W9) := by
        rw [hW9]
        exact ((((B7.out.alloc B7.out.size _).drew).grown hg1 (by simp; omega) (fun c hc => by have := (XO1.out.lt c hc).1; omega))).setCell (by simp) _
      have S9 : Hid (Rng W9 m (w1.heap.size + 1) (less L ((i : Int), (j : Int)))) := by
        have h := S7.out
        exact h.frame (fb _ h.lt.1 (fun e => by have := (XO1.out.lt _ e.symm).1; omega) (by omega)) (fb _ h.lt.2 (fun e => by have := (XO1.out.lt _ e.symm).1; omega) (by omega))
      have hsz9 : W7.heap.size ≤ W9.heap.size := by rw [hW9, size_setCell]; exact hvs
      have b9 : w3.heap.size < W9.heap.size := by omega
      clear hW9 fb k0 e0 e1 t0 f0 k0' e0' e1' t0' f0' wl wl1 hvs hg1 hown1 hat1 hlt1 HS HS1 hln
      go_wp2
      go_roundg (less L ((i : Int), (j : Int))).length
      case measure => have := less_lt HP.out; have := HL.out; omega
      case rel =>
        refine ⟨_, _, rfl, ⟨B9.out, S9.out, G9.out, fun p hp => HV'.out.sub p (mem_less.1 hp).1, by omega, ⟨_, R9.out⟩, ?_⟩⟩
        have := HV'.out.fill.step HR.out hij hjn HP.out HV'.out.sub
        rw [HT7.out]
        exact this
end Go.Proofs.Ythbojpaghbbnnaa
namespace Go.Proofs.Ythbojpaghbbnnaa
open Go.RowKit Go.WideMaps Go.Maps
set_option linter.unusedVariables false
set_option linter.unusedSimpArgs false
theorem is_yes (v n : Int) (w : World) (h : 0 ≤ v ∧ v < n) : Calls Try.prog 107 #[.int .i64 v, .int .i64 n] w fun e w' => e = .returned (.bool true) ∧ w = w' :=
  (is_any v n w).mono fun e w' ⟨h1, h2⟩ => ⟨by rw [h1]; simp [h], h2⟩
theorem is_no (v n : Int) (w : World) (h : ¬ (0 ≤ v ∧ v < n)) : Calls Try.prog 107 #[.int .i64 v, .int .i64 n] w fun e w' => e = .returned (.bool false) ∧ w = w' :=
  (is_any v n w).mono fun e w' ⟨h1, h2⟩ => ⟨by
    rw [h1]
    have : (decide (0 ≤ v) && decide (v < n)) = false := by simp; omega
    rw [this], h2⟩
def okP (n : Nat) (p : Int × Int) : Bool := decide (0 ≤ p.1) && decide (p.1 < n) && decide (0 ≤ p.2) && decide (p.2 < n)
theorem okP_iff {n : Nat} {p : Int × Int} : okP n p = true ↔ (0 ≤ p.1 ∧ p.1 < n) ∧ 0 ≤ p.2 ∧ p.2 < n := by simp [okP]; omega
/-- The edges that pairs make, as keys. -/
def stepE (E : List (Int × Int)) (p : Int × Int) : List (Int × Int) := if p.1 = p.2 then E else addE E (min p.1 p.2, max p.1 p.2)
def mkE (ps : List (Int × Int)) : List (Int × Int) := ps.foldl stepE []
theorem mkE_snoc (ps : List (Int × Int)) (p : Int × Int) : mkE (ps ++ [p]) = stepE (mkE ps) p := by simp [mkE, List.foldl_append]
theorem mem_addE {E : List (Int × Int)} {p q : Int × Int} : q ∈ addE E p ↔ q ∈ E ∨ q = p := by
  unfold addE
  split
  · rename_i h
    exact ⟨.inl, fun k => k.elim id (fun e => e ▸ h)⟩
  · simp
theorem mem_mkE (ps : List (Int × Int)) (q : Int × Int) : q ∈ mkE ps ↔ ∃ p ∈ ps, p.1 ≠ p.2 ∧ q = (min p.1 p.2, max p.1 p.2) := by
  suffices h : ∀ (ps : List (Int × Int)) (E : List (Int × Int)), q ∈ ps.foldl stepE E ↔ q ∈ E ∨ ∃ p ∈ ps, p.1 ≠ p.2 ∧ q = (min p.1 p.2, max p.1 p.2) by
    rw [mkE, h]; simp
  intro ps
  induction ps with
  | nil => intro E; simp
  | cons p ps ih =>
    intro E
    rw [List.foldl_cons, ih]
    simp only [stepE]
    by_cases e : p.1 = p.2
    · simp [e]
    · rw [if_neg e, mem_addE]
      simp only [List.mem_cons, exists_eq_or_imp, ne_eq, e, not_false_eq_true, true_and]
      rw [or_assoc]
/-- The graph that pairs make. -/
def Gr.ofPairs (n : Nat) (ps : List (Int × Int)) : Gr := ⟨n, fun u v => decide (u ≠ v) && ps.any (fun p => (decide (p.1 = u) && decide (p.2 = v)) || (decide (p.1 = v) && decide (p.2 = u)))⟩
theorem ofE_mkE (n : Nat) (ps : List (Int × Int)) : Gr.ofE n (mkE ps) = Gr.ofPairs n ps := by
  unfold Gr.ofE Gr.ofPairs
  congr 1
  funext u v
  rw [Bool.eq_iff_iff, decide_eq_true_eq, mem_mkE]
  simp only [Bool.and_eq_true, decide_eq_true_eq, List.any_eq_true, Bool.or_eq_true, Prod.mk.injEq, ne_eq]
  constructor
  · rintro ⟨p, hp, hne, e1, e2⟩
    refine ⟨by omega, p, hp, by omega⟩
  · rintro ⟨hne, p, hp, h⟩
    exact ⟨p, hp, by omega, by omega, by omega⟩
theorem edgy_mkE {n : Nat} {ps : List (Int × Int)} (h : ∀ p ∈ ps, okP n p = true) : Edgy n (mkE ps) := by
  intro q hq
  obtain ⟨p, hp, hne, rfl⟩ := (mem_mkE ps q).1 hq
  have := okP_iff.1 (h p hp)
  simp only
  omega
set_option maxRecDepth 100000 in
set_option maxHeartbeats 4000000 in
theorem Make_out (w : World) (n : Int) (v : Value) (h : n < 0 ∨ 16777216 < n) :
    Calls Try.prog 105 #[.int .i64 n, v] w fun e w' => e = .returned (.tuple #[.pointer none, .int .i64 41]) ∧ Below w.heap.size w w' := by
  rcases h with h | h
  · go_enter Try.func105, Try.ntmps105
    go_wp2
    go_ret2
    exact ⟨rfl, Below.refl _ _⟩
  · have h' : 0 ≤ n := by omega
    go_enter Try.func105, Try.ntmps105
    go_wp2
    go_ret2
    exact ⟨rfl, Below.refl _ _⟩
def MakeInv (w wr : World) (ps : List (Int × Int)) (n k : Nat) : Prop := Below w.heap.size w wr ∧ EMap wr w.heap.size (mkE (ps.take k)) ∧ ∀ p ∈ ps.take k, okP n p = true
set_option maxRecDepth 100000 in
set_option maxHeartbeats 4000000 in
theorem Make_in (w : World) (n : Nat) (hn : n ≤ 16777216) {lo hi : Nat} {v : Value} {ps : List (Int × Int)} (hv : Prs w lo hi v ps) :
    Calls Try.prog 105 #[.int .i64 (n : Int), v] w fun e w' => Below w.heap.size w w' ∧
      ((∀ p ∈ ps, okP n p = true) → ∃ g, e = .returned (.tuple #[g, .int .i64 0]) ∧ PG w' w.heap.size w'.heap.size g (Gr.ofPairs n ps)) ∧
      ((∃ p ∈ ps, okP n p = false) → e = .returned (.tuple #[.pointer none, .int .i64 42])) := by
  obtain ⟨hl, A, c, rfl⟩ := hv.form
  have hmm := @run_makeMap Try.prog
  go_enter Try.func105, Try.ntmps105
  go_wp2
  go_loopg [18] ps.length (fun g s wr => ∃ k : Nat, g + k = ps.length ∧ s = .int .i64 k ∧ Hid (MakeInv w wr ps n k))
  case atStart => exact ⟨0, rfl, rfl, (Below.refl _ _).alloc (Nat.le_refl _) _, EMap.made w, by simp⟩
  case round =>
    clear hmm
    obtain ⟨k, hk, rfl, HI⟩ := hrel
    have HK := Lib.hid hk
    clear hk
    by_cases hlt : k < ps.length
    · have hpv := hv.at_ HI.out.1
      obtain ⟨b, off, p, rfl, _, _, hc, X⟩ := hpv.get encP_len k hlt
      have c0 := hc 0 (by omega)
      have c1 := hc 1 (by omega)
      obtain ⟨x, y⟩ := p
      simp only [encP, Nat.add_zero, List.getElem?_cons_zero, List.getElem?_cons_succ] at c0 c1
      clear hc hpv
      have hst : mkE (ps.take (k + 1)) = stepE (mkE (ps.take k)) (x, y) := by rw [take_snoc' X.out, mkE_snoc]
      have HST := Lib.hid hst
      have hm := HI.out.2.1.lt
      clear hst
      by_cases hx : 0 ≤ x ∧ x < n
      · by_cases hy : 0 ≤ y ∧ y < n
        · by_cases hxy : x = y
          · subst hxy
            go_wp2_with (go_at_call 107; refine (is_yes _ _ _ (by omega)).mono ?_; rintro e w' ⟨rfl, rfl⟩)
            go_roundg (ps.length - (k + 1))
            case measure => have := HK.out; omega
            case rel =>
              refine ⟨k + 1, by omega, by go_num, HI.out.1.alloc HI.out.1.size _, ?_, ?_⟩
              · rw [HST.out, stepE, if_pos rfl]
                exact HI.out.2.1.frame (Below.heap_alloc _ _ _ hm)
              · intro p hp
                rw [take_snoc' X.out] at hp
                rcases List.mem_append.1 hp with hp | hp
                · exact HI.out.2.2 p hp
                · rw [List.mem_singleton.1 hp]; exact okP_iff.2 ⟨hx, hx⟩
          · have hb1 : (x != y) = true := by simpa using hxy
            have hb2 : (x == y) = false := by simpa using hxy
            go_wp2_with (first
              | (go_at_call 107; refine (is_yes _ _ _ (by omega)).mono ?_; rintro e w' ⟨rfl, rfl⟩)
              | (go_at_call 110; refine (key_any _ _ _).mono ?_; rintro e w' ⟨rfl, rfl⟩)
              | (at_mapUpdate; refine wpl_update rfl (.tmp 39) (.tmp 44) _ rfl w.heap.size (min x y) (max x y) rfl rfl rfl ((HI.out.2.1.frame (Below.heap_alloc _ _ _ hm)).frame (Below.heap_alloc _ _ _ (by simp; omega))) (by unfold Wf; omega) (by unfold Wf; omega) ?_; intro w3 hE3 hg3 hs3))
            go_roundg (ps.length - (k + 1))
            case measure => have := HK.out; omega
            case rel =>
              refine ⟨k + 1, by omega, by go_num, ((HI.out.1.alloc HI.out.1.size _).alloc (by have := HI.out.1.size; simp; omega) _).grown hg3 (by have := HI.out.1.size; simp; omega) (fun c hc => by injection hc; omega), ?_, ?_⟩
              · rw [HST.out, stepE, if_neg hxy]
                exact hE3
              · intro p hp
                rw [take_snoc' X.out] at hp
                rcases List.mem_append.1 hp with hp | hp
                · exact HI.out.2.2 p hp
                · rw [List.mem_singleton.1 hp]; exact okP_iff.2 ⟨hx, hy⟩
        · go_wp2_with (go_at_call 107; first | (refine (is_yes _ _ _ (by omega)).mono ?_; rintro e w' ⟨rfl, rfl⟩) | (refine (is_no _ _ _ (by omega)).mono ?_; rintro e w' ⟨rfl, rfl⟩))
          go_ret2
          have hm : (x, y) ∈ ps := List.mem_of_getElem? X.out
          exact ⟨HI.out.1.alloc HI.out.1.size _, fun h => absurd (okP_iff.1 (h _ hm)).2 hy, fun _ => rfl⟩
      · go_wp2_with (go_at_call 107; refine (is_no _ _ _ (by omega)).mono ?_; rintro e w' ⟨rfl, rfl⟩)
        go_ret2
        have hm : (x, y) ∈ ps := List.mem_of_getElem? X.out
        exact ⟨HI.out.1.alloc HI.out.1.size _, fun h => absurd (okP_iff.1 (h _ hm)).1 hx, fun _ => rfl⟩
    · have hk : k = ps.length := by have := HK.out; omega
      have hI := HI.out
      rw [hk, MakeInv, List.take_length] at hI
      have hI' := Lib.hid hI
      clear HI hI hk HK
      go_wp2_with (go_at_call 109; refine (of_any wr n hn w.heap.size w.heap.size (mkE ps) hI'.out.2.1 (edgy_mkE hI'.out.2.2) (Nat.le_refl _)).mono ?_; rintro e w' ⟨hb, g, rfl, hg⟩; have HB := Lib.hid hb; have HG := Lib.hid hg; clear hb hg)
      go_ret2
      refine ⟨below_then' hI'.out.1 HB.out, fun _ => ⟨g, rfl, ?_⟩, fun ⟨p, hp, h⟩ => ?_⟩
      · rw [← ofE_mkE]; exact HG.out
      · rw [hI'.out.2.2 p hp] at h; cases h
end Go.Proofs.Ythbojpaghbbnnaa
namespace Go.Proofs.Ythbojpaghbbnnaa
open Go.RowKit Go.WideMaps Go.Maps
set_option linter.unusedVariables false
set_option linter.unusedSimpArgs false
/-- The graph's struct opened: block b, the map in block m, the rows t. -/
structure PGc (w : World) (lo hi b m : Nat) (t : Option Addr) (c : Nat) (E : List (Int × Int)) (G : Gr) : Prop where
  ok : G.Ok
  lt : b < w.heap.size
  c0 : w.cell? ⟨b, 0, none⟩ = some (.int .i64 (G.n : Int))
  c1 : w.cell? ⟨b, 1, none⟩ = some (.map (some m))
  c2 : w.cell? ⟨b, 2, none⟩ = some (.slice t G.n c)
  map : EMap w m E
  tells : Tells E G
  le : hi ≤ w.heap.size
  rows : Rows2 w lo hi (.slice t G.n c) G.n (fun u => up (G.nb u))
theorem PG.open_ {w : World} {lo hi : Nat} {g : Value} {G : Gr} (h : PG w lo hi g G) : ∃ b m t c E, g = .pointer (some ⟨b, 0, none⟩) ∧ PGc w lo hi b m t c E G := by
  obtain ⟨h0, h1, b, m, t, c, E, rfl, h3, h4, h5, h6, h7, h8, h9, h10⟩ := h
  exact ⟨b, m, t, c, E, rfl, h0, (Array.getElem?_eq_some_iff.1 h5).1, cell_of h5 0, cell_of h5 1, cell_of h5 2, h8, h9, h1, h10⟩
theorem PGc.at_ {w w' : World} {lo hi b m : Nat} {t : Option Addr} {c : Nat} {E : List (Int × Int)} {G : Gr} (h : PGc w lo hi b m t c E G) (k : Below w.heap.size w w') : PGc w' lo hi b m t c E G where
  ok := h.ok
  lt := Nat.lt_of_lt_of_le h.lt k.size
  c0 := (k.cell (p := ⟨b, 0, none⟩) h.lt).trans h.c0
  c1 := (k.cell (p := ⟨b, 1, none⟩) h.lt).trans h.c1
  c2 := (k.cell (p := ⟨b, 2, none⟩) h.lt).trans h.c2
  map := h.map.frame (k.block m h.map.lt)
  tells := h.tells
  le := Nat.le_trans h.le k.size
  rows := h.rows.frame (same_below k h.le)
set_option maxHeartbeats 400000 in
theorem Degree_any (w : World) {lo hi : Nat} {g : Value} {G : Gr} (h : PG w lo hi g G) (v : Int) :
    Calls Try.prog 46 #[g, .int .i64 v] w fun e w' => e = .returned (.int .i64 (if 0 ≤ v then ((G.nb v.toNat).length : Int) else 0)) ∧ w = w' := by
  obtain ⟨b, m, t, c, E, rfl, hc⟩ := h.open_
  have c0 := hc.c0
  have c2 := hc.c2
  by_cases hv : 0 ≤ v ∧ v < G.n
  · obtain ⟨k, rfl⟩ := Int.eq_ofNat_of_zero_le hv.1
    rw [if_pos hv.1, Int.toNat_natCast]
    have hk : k < G.n := by omega
    obtain ⟨bb, off, x, rfl, _, _, g1, hx⟩ := hc.rows.get k hk
    obtain ⟨_, A, cc, rfl⟩ := hx.form
    rw [up_length] at g1
    clear hc hx
    go_enter Try.func46, Try.ntmps46
    go_wp2_with (go_at_call 107; refine (is_yes _ _ _ hv).mono ?_; rintro e w' ⟨rfl, rfl⟩)
    go_ret
    exact ⟨rfl, rfl⟩
  · have e : (if 0 ≤ v then ((G.nb v.toNat).length : Int) else 0) = 0 := by
      split
      · rw [Gr.nb_out hc.ok (by omega)]; rfl
      · rfl
    rw [e]
    clear hc e
    go_enter Try.func46, Try.ntmps46
    go_wp2_with (go_at_call 107; refine (is_no _ _ _ hv).mono ?_; rintro e w' ⟨rfl, rfl⟩)
    go_ret
    exact ⟨rfl, rfl⟩
/-- The neighbours of any number. -/
def Gr.nbz (G : Gr) (v : Int) : List Nat := if 0 ≤ v then G.nb v.toNat else []
set_option maxHeartbeats 400000 in
theorem Neighbours_any (w : World) {lo hi : Nat} {g : Value} {G : Gr} (h : PG w lo hi g G) (v : Int) :
    Calls Try.prog 38 #[g, .int .i64 v] w fun e w' => Below w.heap.size w w' ∧ ∃ x, e = .returned x ∧ w'.ownsRow w.heap.size 3 1 x (G.nbz v).length ((up (G.nbz v)).map (Value.int .i64)) := by
  obtain ⟨b, m, t, c, E, rfl, hc⟩ := h.open_
  have c0 := hc.c0
  have c2 := hc.c2
  by_cases hv : 0 ≤ v ∧ v < G.n
  · obtain ⟨k, rfl⟩ := Int.eq_ofNat_of_zero_le hv.1
    have e : G.nbz (k : Int) = G.nb k := by simp [Gr.nbz]
    rw [e]
    have hk : k < G.n := by omega
    obtain ⟨bb, off, x, rfl, _, _, g1, hx⟩ := hc.rows.get k hk
    have hlen : (up (G.nb k)).length * 8 ≤ 140737488355328 := by have := G.nb_length_le k; have := hc.ok.small; rw [up_length]; omega
    have HX := Lib.hid hx
    have HL := Lib.hid hlen
    clear hc hx hlen e
    go_enter Try.func38, Try.ntmps38
    go_wp2_with (first
      | (go_at_call 107; refine (is_yes _ _ _ hv).mono ?_; rintro e w' ⟨rfl, rfl⟩)
      | (go_at_call 108; refine (Clone_any w HX.out HL.out).mono ?_; rintro e w' ⟨hb, y, rfl, hy⟩; have HB := Lib.hid hb; have HY := Lib.hid hy; clear hb hy))
    go_ret
    exact ⟨HB.out, _, rfl, by have := HY.out; rwa [up_length] at this⟩
  · have e : G.nbz v = [] := by
      unfold Gr.nbz
      split
      · rw [Gr.nb_out hc.ok (by omega)]
      · rfl
    rw [e]
    clear hc e
    go_enter Try.func38, Try.ntmps38
    go_wp2_with (go_at_call 107; refine (is_no _ _ _ hv).mono ?_; rintro e w' ⟨rfl, rfl⟩)
    go_ret
    exact ⟨Below.refl _ _, _, rfl, World.ownsRow_nil _ _ _ _⟩
theorem mem_E {E : List (Int × Int)} {G : Gr} (hG : G.Ok) (h : Tells E G) (u v : Int) : decide ((min u v, max u v) ∈ E) = (decide (0 ≤ u) && decide (0 ≤ v) && G.adj u.toNat v.toNat) := by
  rw [Bool.eq_iff_iff, decide_eq_true_eq, h.2]
  simp only [Bool.and_eq_true, decide_eq_true_eq]
  constructor
  · rintro ⟨a, b, e1, e2, hl, hk⟩
    by_cases huv : u ≤ v
    · have : u.toNat = a := by omega
      have : v.toNat = b := by omega
      subst_vars
      exact ⟨⟨by omega, by omega⟩, hk⟩
    · have : v.toNat = a := by omega
      have : u.toNat = b := by omega
      subst_vars
      rw [hG.symm] at hk
      exact ⟨⟨by omega, by omega⟩, hk⟩
  · rintro ⟨⟨h1, h2⟩, hk⟩
    have hne : u.toNat ≠ v.toNat := fun e => by rw [e, hG.irr] at hk; cases hk
    by_cases huv : u ≤ v
    · exact ⟨u.toNat, v.toNat, by omega, by omega, by omega, hk⟩
    · rw [hG.symm] at hk
      exact ⟨v.toNat, u.toNat, by omega, by omega, by omega, hk⟩
def Gr.has (G : Gr) (u v : Int) : Bool := decide (0 ≤ u) && decide (0 ≤ v) && G.adj u.toNat v.toNat
set_option maxRecDepth 100000 in
set_option maxHeartbeats 1000000 in
theorem Has_any (w : World) {lo hi : Nat} {g : Value} {G : Gr} (h : PG w lo hi g G) (u v : Int) (hu : Wf u) (hv : Wf v) :
    Calls Try.prog 41 #[g, .int .i64 u, .int .i64 v] w fun e w' => e = .returned (.bool (G.has u v)) ∧ Below w.heap.size w w' := by
  obtain ⟨b, m, t, c, E, rfl, hc⟩ := h.open_
  have c0 := hc.c1
  have hbs := hc.lt
  have hms := hc.map.lt
  unfold Gr.has
  rw [← mem_E hc.ok hc.tells u v]
  have HE := Lib.hid hc.map
  clear hc
  have hmin : Wf (min u v) := by unfold Wf at *; omega
  have hmax : Wf (max u v) := by unfold Wf at *; omega
  have HL : ∀ o : Obj, (Instr.lookup 117 (.map (some m)) (kv (min u v) (max u v)) false).run Try.prog ((w.alloc o).drew) = .ok (.bool (decide ((min u v, max u v) ∈ E))) ((w.alloc o).drew) := fun o =>
    EMap.lookup (HE.out.frame (w' := (w.alloc o).drew) (Below.heap_alloc w o m hms)) hmin hmax
  go_enter Try.func41, Try.ntmps41
  go_wp2
  go_region_held3 (fun w' => w'.cell? ⟨b, 1, none⟩ = some (.map (some m))) (first | exact c0 | (go_keep))
    (first | (go_at_call 110; refine (key_any u v _).mono ?_; rintro e w' ⟨rfl, rfl⟩))
  go_wp2
  go_ret
  exact ⟨rfl, ((Below.refl _ _).alloc (Nat.le_refl _) _).drew⟩
end Go.Proofs.Ythbojpaghbbnnaa
namespace Go.Proofs.Ythbojpaghbbnnaa
open Go.RowKit Go.WideMaps Go.Maps
set_option linter.unusedVariables false
set_option linter.unusedSimpArgs false
def upP (l : List (Nat × Nat)) : List (Int × Int) := l.map (fun p => ((p.1 : Int), (p.2 : Int)))
theorem upP_length (l : List (Nat × Nat)) : (upP l).length = l.length := by simp [upP]
theorem upP_append (a b : List (Nat × Nat)) : upP (a ++ b) = upP a ++ upP b := by simp [upP]
theorem flat_snoc {α : Type} (enc : α → List Value) (xs : List α) (y : α) : (xs ++ [y]).flatMap enc = xs.flatMap enc ++ enc y := by simp
def rowP (G : Gr) (u : Nat) : List (Nat × Nat) := ((G.nb u).filter (fun v => decide (u < v))).map (fun v => (u, v))
def pairsTo (G : Gr) (k : Nat) : List (Nat × Nat) := (List.range k).flatMap (rowP G)
theorem pairsTo_succ (G : Gr) (k : Nat) : pairsTo G (k + 1) = pairsTo G k ++ rowP G k := by simp [pairsTo, List.range_succ]
theorem pairsTo_all (G : Gr) : pairsTo G G.n = G.pairs := rfl
def rowTo (G : Gr) (u j : Nat) : List (Nat × Nat) := (((G.nb u).take j).filter (fun v => decide (u < v))).map (fun v => (u, v))
theorem rowTo_all (G : Gr) (u : Nat) : rowTo G u (G.nb u).length = rowP G u := by simp [rowTo, rowP]
theorem rowTo_succ (G : Gr) (u j x : Nat) (h : (G.nb u)[j]? = some x) : rowTo G u (j + 1) = rowTo G u j ++ if u < x then [(u, x)] else [] := by
  unfold rowTo
  rw [take_snoc' h, List.filter_append, List.map_append]
  congr 1
  by_cases hx : u < x <;> simp [hx]
theorem rowTo_le (G : Gr) (u j : Nat) : (rowTo G u j).length ≤ G.n := by
  unfold rowTo
  rw [List.length_map]
  have h1 := List.length_filter_le (fun v => decide (u < v)) ((G.nb u).take j)
  have h2 := List.length_take_le j (G.nb u)
  have h3 : ((G.nb u).take j).length ≤ (G.nb u).length := by rw [List.length_take]; omega
  have := G.nb_length_le u
  omega
theorem rowP_le (G : Gr) (u : Nat) : (rowP G u).length ≤ G.n := by rw [← rowTo_all]; exact rowTo_le _ _ _
theorem pairsTo_le (G : Gr) (k : Nat) : (pairsTo G k).length ≤ k * G.n := by
  induction k with
  | zero => simp [pairsTo]
  | succ k ih => rw [pairsTo_succ, List.length_append, Nat.succ_mul]; have := rowP_le G k; omega
set_option maxRecDepth 100000 in
set_option maxHeartbeats 4000000 in
theorem Pairs_any (w : World) {lo hi : Nat} {g : Value} {G : Gr} (h : PG w lo hi g G) (hn : G.n ≤ 4096) :
    Calls Try.prog 35 #[g] w fun e w' => Below w.heap.size w w' ∧ ∃ x, e = .returned x ∧ w'.ownsRow w.heap.size 32 2 x (upP G.pairs).length ((upP G.pairs).flatMap encP) := by
  obtain ⟨b, m, t, c, E, rfl, hc⟩ := h.open_
  have c2 := hc.c2
  have HC := Lib.hid hc
  clear hc h
  have hbnd : ∀ k, k ≤ G.n → (pairsTo G k).length ≤ 16777216 := fun k hk => Nat.le_trans (pairsTo_le G k) (Nat.le_trans (Nat.mul_le_mul hk (Nat.le_refl _)) (Nat.le_trans (Nat.mul_le_mul hn hn) (by decide)))
  have HBD := Lib.hid hbnd
  clear hbnd
  go_enter Try.func35, Try.ntmps35
  go_wp2
  go_loopg [3, 13] G.n (fun d v s wr => ∃ k : Nat, d + k = G.n ∧ s = .int .i64 k ∧ Hid (Below w.heap.size w wr ∧ wr.ownsRow w.heap.size 32 2 v (upP (pairsTo G k)).length ((upP (pairsTo G k)).flatMap encP)))
  case atStart => exact ⟨0, rfl, rfl, Below.refl _ _, World.ownsRow_nil _ _ _ _⟩
  case round =>
    clear c2
    obtain ⟨k, hk, rfl, HI⟩ := hrel
    have HK := Lib.hid hk
    clear hk
    by_cases hlt : k < G.n
    · obtain ⟨wo, rfl⟩ : ∃ wo : World, wo = wr := ⟨_, rfl⟩
      obtain ⟨bb, off, x, rfl, _, hbb, g0, hx⟩ := HC.out.rows.get k hlt
      have g1 := (HI.out.1.cell (p := ⟨bb, off + k, none⟩) (Nat.lt_of_lt_of_le hbb HC.out.le)).trans g0
      obtain ⟨hxl, A, cc, rfl⟩ := hx.form
      rw [up_length] at g1 hxl
      have HX := Lib.hid hx
      clear hx g0
      go_wp2
      go_loopg [3, 20] (G.nb k).length (fun d v s wr => ∃ j : Nat, d + j = (G.nb k).length ∧ s = .int .i64 j ∧ Hid (Below w.heap.size w wr ∧ wr.ownsRow w.heap.size 32 2 v (upP (pairsTo G k ++ rowTo G k j)).length ((upP (pairsTo G k ++ rowTo G k j)).flatMap encP)))
      case atStart => exact ⟨0, rfl, rfl, HI.out.1, by simpa [rowTo] using HI.out.2⟩
      case round =>
        obtain ⟨j, hj, rfl, HJ⟩ := hrel
        have HJK := Lib.hid hj
        clear hj g1
        by_cases hjl : j < (G.nb k).length
        · obtain ⟨b2, o2, y, rfl, _, _, g2, Y⟩ := (HX.out.at_ HJ.out.1).get j (by rw [up_length]; exact hjl)
          obtain ⟨z, hz⟩ : ∃ z, (G.nb k)[j]? = some z := ⟨_, List.getElem?_eq_getElem hjl⟩
          have hyz : y = (z : Int) := by
            have := Y.out
            rw [up, List.getElem?_map, hz] at this
            exact (Option.some.inj this).symm
          subst hyz
          have HZ := Lib.hid hz
          clear hz Y
          by_cases hkz : k < z
          · have hlen : (upP (pairsTo G k ++ rowTo G k j)).length + 1 ≤ 16777216 + 4097 := by
              have h1 := HBD.out k (by omega)
              have h2 := rowTo_le G k j
              rw [upP_length, List.length_append]
              omega
            have HLN := Lib.hid hlen
            clear hlen
            go_wp2_with (at_builtin; refine app_one w.heap.size rfl (.tmp 27) (.tmp 31) 23 32 _ 2 16 rfl Try.underlying23 infoPair rfl (by decide) (by decide) _ _ _ #[.int .i64 (k : Int), .int .i64 (z : Int)] rfl rfl rfl (by simp [Value.oneCell']) HJ.out.2 HJ.out.1.size (by have := HLN.out; omega) ?_; intro v1 w1 hown1 hg1 _; have HB1 := Lib.hid (below_app HJ.out.1 HJ.out.2 hg1 (Nat.le_refl _)); have HO1 := Lib.hid hown1; clear hg1 hown1)
            go_roundg ((G.nb k).length - (j + 1))
            case measure => have := HJK.out; omega
            case rel =>
              refine ⟨j + 1, by omega, by go_num, HB1.out, ?_⟩
              rw [rowTo_succ G k j z HZ.out, if_pos hkz, ← List.append_assoc, upP_append, show upP [(k, z)] = [((k : Int), (z : Int))] from rfl, flat_snoc, List.length_append]
              exact HO1.out
          · go_wp2
            go_roundg ((G.nb k).length - (j + 1))
            case measure => have := HJK.out; omega
            case rel =>
              refine ⟨j + 1, by omega, by go_num, HJ.out.1, ?_⟩
              rw [rowTo_succ G k j z HZ.out, if_neg hkz, List.append_nil]
              exact HJ.out.2
        · have hje : j = (G.nb k).length := by have := HJK.out; omega
          go_wp2
          go_roundg (G.n - (k + 1))
          case measure => have := HK.out; omega
          case rel =>
            refine ⟨k + 1, by omega, by go_num, HJ.out.1, ?_⟩
            rw [pairsTo_succ, ← rowTo_all, ← hje]
            exact HJ.out.2
    · have hke : k = G.n := by have := HK.out; omega
      have hI := HI.out
      rw [hke, pairsTo_all] at hI
      have HI' := Lib.hid hI
      clear hI HI
      go_wp2
      go_ret
      exact ⟨HI'.out.1, _, rfl, HI'.out.2⟩
end Go.Proofs.Ythbojpaghbbnnaa
namespace Go.Proofs.Ythbojpaghbbnnaa
open Go.RowKit Go.WideMaps Go.Maps
set_option linter.unusedVariables false
set_option linter.unusedSimpArgs false
def mixL (L : List (Int × List Int)) (vs : List Value) : List Value := (List.zipWith (fun p x => [Value.int .i64 p.1, x]) L vs).flatten
theorem mixL_snoc (L : List (Int × List Int)) (vs : List Value) (h : vs.length = L.length) (p : Int × List Int) (x : Value) : mixL (L ++ [p]) (vs ++ [x]) = mixL L vs ++ [.int .i64 p.1, x] := by
  unfold mixL
  rw [List.zipWith_append h.symm]
  simp
/-- A slice of lists that is read. -/
def Lsts (w : World) (lo hi : Nat) (v : Value) (L : List (Int × List Int)) : Prop :=
  ∃ vs : List Value, vs.length = L.length ∧ Sl w lo hi 2 v L.length (mixL L vs) ∧ ∀ (i : Nat) (p : Int × List Int) (x : Value), L[i]? = some p → vs[i]? = some x → Ints w lo hi x p.2
theorem Lsts.frame {w w' : World} {lo hi : Nat} {v : Value} {L : List (Int × List Int)} (h : Lsts w lo hi v L) (s : Same lo hi w w') : Lsts w' lo hi v L := by
  obtain ⟨vs, h1, h2, h3⟩ := h
  exact ⟨vs, h1, h2.frame s, fun i p x hp hx => (h3 i p x hp hx).frame s⟩
theorem Lsts.at_ {w w' : World} {lo hi : Nat} {v : Value} {L : List (Int × List Int)} (h : Lsts w lo hi v L) (b : Below w.heap.size w w') : Lsts w' lo hi v L := by
  have := h
  obtain ⟨vs, h1, h2, h3⟩ := this
  exact h.frame (same_below b h2.le)
theorem Lsts.mono {w : World} {lo hi lo' hi' : Nat} {v : Value} {L : List (Int × List Int)} (h : Lsts w lo hi v L) (h1 : lo' ≤ lo) (h2 : hi ≤ hi') (h3 : hi' ≤ w.heap.size) : Lsts w lo' hi' v L := by
  obtain ⟨vs, a, b, c⟩ := h
  exact ⟨vs, a, b.mono h1 h2 h3, fun i p x hp hx => (c i p x hp hx).mono h1 h2 h3⟩
/-- .. that the call owns, each list at a block of its own kind. -/
def OwnL (w : World) (base : Nat) (v : Value) (L : List (Int × List Int)) : Prop :=
  ∃ vs : List Value, vs.length = L.length ∧ w.ownsRow base 131 2 v L.length (mixL L vs) ∧ ∀ (i : Nat) (p : Int × List Int) (x : Value), L[i]? = some p → vs[i]? = some x → w.ownsRow base 3 1 x p.2.length (p.2.map (Value.int .i64))
theorem OwnL.nil (w : World) (base : Nat) : OwnL w base (.slice none 0 0) [] := ⟨[], rfl, World.ownsRow_nil _ _ _ _, fun i p x h => by simp at h⟩
theorem OwnL.snoc {W w1 : World} {base : Nat} {v v1 y : Value} {L : List (Int × List Int)} {vs : List Value} {p : Int × List Int} (h1 : vs.length = L.length) (h2 : W.ownsRow base 131 2 v L.length (mixL L vs))
    (h3 : ∀ (i : Nat) (p : Int × List Int) (x : Value), L[i]? = some p → vs[i]? = some x → W.ownsRow base 3 1 x p.2.length (p.2.map (Value.int .i64)))
    (hy : W.ownsRow base 3 1 y p.2.length (p.2.map (Value.int .i64))) (hown : w1.ownsRow base 131 2 v1 (L.length + 1) (mixL L vs ++ [.int .i64 p.1, y])) (hg : W.grownBy w1 v.ownBlock) : OwnL w1 base v1 (L ++ [p]) := by
  refine ⟨vs ++ [y], by simp [h1], ?_, fun i q x hq hx => ?_⟩
  · rw [mixL_snoc L vs h1, List.length_append]
    exact hown
  · by_cases hi : i < L.length
    · rw [List.getElem?_append_left hi] at hq
      rw [List.getElem?_append_left (by omega)] at hx
      have := h3 i q x hq hx
      exact this.kept hg (own_ne_type this h2 (by decide))
    · have hi' : i = L.length := by
        have := (List.getElem?_eq_some_iff.1 hq).1
        simp at this
        omega
      subst hi'
      rw [List.getElem?_append_right (Nat.le_refl _)] at hq
      rw [List.getElem?_append_right (by omega), h1] at hx
      simp at hq hx
      subst hq
      subst hx
      exact hy.kept hg (own_ne_type hy h2 (by decide))
end Go.Proofs.Ythbojpaghbbnnaa
namespace Go.Proofs.Ythbojpaghbbnnaa
open Go.RowKit Go.WideMaps Go.Maps
set_option linter.unusedVariables false
set_option linter.unusedSimpArgs false
theorem ofE_of_tells {E : List (Int × Int)} {G : Gr} (hG : G.Ok) (h : Tells E G) : Gr.ofE G.n E = G := by
  obtain ⟨n, adj⟩ := G
  unfold Gr.ofE
  congr 1
  funext u v
  rw [Bool.eq_iff_iff, decide_eq_true_eq, h.2]
  constructor
  · rintro ⟨a, b, e1, e2, hl, hk⟩
    rcases Nat.le_total u v with h1 | h1
    · have : u = a := by omega
      have : v = b := by omega
      subst_vars
      exact hk
    · have e3 : v = a := by omega
      have e4 : u = b := by omega
      rw [e3, e4]
      exact (hG.symm b a).trans hk
  · intro hk
    have hk' : (⟨n, adj⟩ : Gr).adj u v = true := hk
    have hne : u ≠ v := fun e => by rw [e, hG.irr] at hk'; cases hk'
    rcases Nat.lt_or_gt_of_ne hne with h1 | h1
    · exact ⟨u, v, by omega, by omega, h1, hk⟩
    · exact ⟨v, u, by omega, by omega, h1, by rw [hG.symm]; exact hk⟩
theorem tells_edgy {E : List (Int × Int)} {G : Gr} (hG : G.Ok) (h : Tells E G) : Edgy G.n E := by
  rintro ⟨a, b⟩ hp
  obtain ⟨u, v, rfl, rfl, hl, hk⟩ := (h.2 a b).1 hp
  have := hG.rng' hk
  simp only
  omega
end Go.Proofs.Ythbojpaghbbnnaa
namespace Go.Proofs.Ythbojpaghbbnnaa
open Go.RowKit Go.WideMaps Go.Maps
set_option linter.unusedVariables false
set_option linter.unusedSimpArgs false
abbrev Chg := (Int × Int) × Bool
/-- The graph behind a change. -/
def Gr.chg (G : Gr) (c : Chg) : Gr :=
  ⟨G.n, fun a b => if decide (a ≠ b) && ((decide (c.1.1 = a) && decide (c.1.2 = b)) || (decide (c.1.1 = b) && decide (c.1.2 = a))) then !c.2 else G.adj a b⟩
def Gr.changed (G : Gr) (cs : List Chg) : Gr := cs.foldl Gr.chg G
theorem changed_snoc (G : Gr) (cs : List Chg) (c : Chg) : G.changed (cs ++ [c]) = (G.changed cs).chg c := by simp [Gr.changed, List.foldl_append]
theorem changed_n (G : Gr) (cs : List Chg) : (G.changed cs).n = G.n := by
  unfold Gr.changed
  induction cs generalizing G with
  | nil => rfl
  | cons c cs ih => rw [List.foldl_cons, ih]; rfl
theorem chg_adj (G : Gr) (c : Chg) (a b : Nat) : (G.chg c).adj a b = true ↔ (a ≠ b ∧ ((c.1.1 = a ∧ c.1.2 = b) ∨ (c.1.1 = b ∧ c.1.2 = a)) ∧ c.2 = false) ∨ (¬ (a ≠ b ∧ ((c.1.1 = a ∧ c.1.2 = b) ∨ (c.1.1 = b ∧ c.1.2 = a))) ∧ G.adj a b = true) := by
  simp only [Gr.chg]
  by_cases h : a ≠ b ∧ ((c.1.1 = a ∧ c.1.2 = b) ∨ (c.1.1 = b ∧ c.1.2 = a))
  · have : (decide (a ≠ b) && ((decide (c.1.1 = a) && decide (c.1.2 = b)) || (decide (c.1.1 = b) && decide (c.1.2 = a)))) = true := by simpa [-not_and] using h
    rw [if_pos this]
    simp [h]
  · have : (decide (a ≠ b) && ((decide (c.1.1 = a) && decide (c.1.2 = b)) || (decide (c.1.1 = b) && decide (c.1.2 = a)))) = false := by
      rw [← Bool.not_eq_true]; simpa using h
    rw [this, if_neg (by simp)]
    constructor
    · exact fun k => .inr ⟨h, k⟩
    · rintro (k | k)
      · exact absurd ⟨k.1, k.2.1⟩ h
      · exact k.2
theorem chg_ok {G : Gr} (h : G.Ok) {c : Chg} (hc : okP G.n c.1 = true) : (G.chg c).Ok where
  symm u v := by
    rw [Bool.eq_iff_iff, chg_adj, chg_adj, h.symm u v]
    constructor <;>
    · rintro (⟨a1, a2, a3⟩ | ⟨a1, a2⟩)
      · exact .inl ⟨Ne.symm a1, a2.symm, a3⟩
      · exact .inr ⟨fun k => a1 ⟨Ne.symm k.1, k.2.symm⟩, a2⟩
  irr u := by simp [Gr.chg, h.irr]
  rng u v k := by
    have := okP_iff.1 hc
    rcases (chg_adj G c u v).1 k with ⟨_, a2, _⟩ | ⟨_, a2⟩
    · show u < G.n
      omega
    · exact h.rng u v a2
  small := h.small
/-- What a change does to the keys. -/
def stepC (E : List (Int × Int)) (c : Chg) : List (Int × Int) :=
  if c.1.1 = c.1.2 then E else if c.2 then E.filter (· ≠ (min c.1.1 c.1.2, max c.1.1 c.1.2)) else addE E (min c.1.1 c.1.2, max c.1.1 c.1.2)
theorem nodup_addE {E : List (Int × Int)} {p : Int × Int} (h : E.Nodup) : (addE E p).Nodup := by
  unfold addE
  split
  · exact h
  · rename_i hp
    rw [List.nodup_append]
    exact ⟨h, by simp, by intro a ha b hb e; rw [List.mem_singleton.1 hb] at e; exact hp (e ▸ ha)⟩
theorem tells_chg {E : List (Int × Int)} {G : Gr} (hG : G.Ok) (h : Tells E G) {c : Chg} (hc : okP G.n c.1 = true) : Tells (stepC E c) (G.chg c) := by
  obtain ⟨⟨u, v⟩, gone⟩ := c
  have hk := okP_iff.1 hc
  simp only at hk
  have key : ∀ a b : Int, (a, b) ∈ stepC E ((u, v), gone) ↔ (u ≠ v ∧ (a, b) = (min u v, max u v) ∧ gone = false) ∨ (¬ (u ≠ v ∧ (a, b) = (min u v, max u v)) ∧ (a, b) ∈ E) := by
    intro a b
    unfold stepC
    simp only
    by_cases e : u = v
    · rw [if_pos e]; simp [e]
    · rw [if_neg e]
      cases gone
      · rw [if_neg (by simp), mem_addE]
        by_cases e2 : (a, b) = (min u v, max u v)
        · simp [e, e2]
        · simp [e, e2]
      · rw [if_pos rfl]
        by_cases e2 : (a, b) = (min u v, max u v)
        · simp [e2, e]
        · simp [e2, e]
  constructor
  · unfold stepC
    split
    · exact h.1
    · split
      · exact h.1.filter _
      · exact nodup_addE h.1
  · intro a b
    rw [key, h.2]
    constructor
    · rintro (⟨hne, he, hg⟩ | ⟨hn, x, y, rfl, rfl, hl, hk2⟩)
      · injection he with e1 e2
        refine ⟨a.toNat, b.toNat, by omega, by omega, by omega, (chg_adj _ _ _ _).2 (.inl ⟨by omega, ?_, hg⟩)⟩
        simp only
        omega
      · refine ⟨x, y, rfl, rfl, hl, (chg_adj _ _ _ _).2 (.inr ⟨fun k => hn ?_, hk2⟩)⟩
        obtain ⟨k1, k2⟩ := k
        simp only at k2
        rw [Prod.mk.injEq]
        omega
    · rintro ⟨x, y, rfl, rfl, hl, hk2⟩
      rcases (chg_adj _ _ _ _).1 hk2 with ⟨a1, a2, a3⟩ | ⟨a1, a2⟩
      · simp only at a2
        refine .inl ⟨by omega, ?_, a3⟩
        rw [Prod.mk.injEq]
        omega
      · refine .inr ⟨fun k => a1 ⟨by omega, ?_⟩, x, y, rfl, rfl, hl, a2⟩
        obtain ⟨k1, k2⟩ := k
        rw [Prod.mk.injEq] at k2
        simp only
        omega
def ChgInv (w wr : World) (G : Gr) (cs : List Chg) (k : Nat) (E' : List (Int × Int)) : Prop :=
  Below w.heap.size w wr ∧ EMap wr w.heap.size E' ∧ Tells E' (G.changed (cs.take k)) ∧ (G.changed (cs.take k)).Ok ∧ ∀ c ∈ cs.take k, okP G.n c.1 = true
def CopyInv (w wr : World) (m mb r : Nat) (E L : List (Int × Int)) (E' : List (Int × Int)) : Prop :=
  Below w.heap.size w wr ∧ Rng wr m r L ∧ EMap wr mb E' ∧ (∀ p ∈ L, p ∈ E) ∧ (∀ q, q ∈ E' ↔ q ∈ E ∧ q ∉ L) ∧ r < wr.heap.size
set_option maxRecDepth 100000 in
set_option maxHeartbeats 8000000 in
theorem Changed_any (w : World) {lo hi lo' hi' : Nat} {g cv : Value} {G : Gr} {cs : List Chg} (h : PG w lo hi g G) (hk : Chs w lo' hi' cv cs) :
    Calls Try.prog 43 #[g, cv] w fun e w' => Below w.heap.size w w' ∧
      ((∀ c ∈ cs, okP G.n c.1 = true) → ∃ x, e = .returned (.tuple #[x, .int .i64 0]) ∧ PG w' w.heap.size w'.heap.size x (G.changed cs)) ∧
      ((∃ c ∈ cs, okP G.n c.1 = false) → e = .returned (.tuple #[.pointer none, .int .i64 42])) := by
  obtain ⟨b, m, t, c, E, rfl, hc⟩ := h.open_
  obtain ⟨hkl, A, cc, rfl⟩ := hk.form
  have HC := Lib.hid hc
  have HK := Lib.hid hk
  have c1 : (w.alloc (.map #[] 0)).cell? ⟨b, 1, none⟩ = some (.map (some m)) := (World.cell?_of_block (w := w) (Below.heap_alloc w _ b hc.lt)).trans hc.c1
  have hmm := @run_makeMap Try.prog
  have hml := hc.map.lt
  have hsm := hc.ok.small
  clear hc h hk
  go_enter Try.func43, Try.ntmps43
  go_wp2_with (at_range; refine wpl_range rfl (.tmp 14) rfl m (w.heap.size + 1) (by simp) rfl (HC.out.map.frame (Below.heap_alloc w _ m hml)) ?_; intro w2 hrg hg2 hs2)
  go_frame
  go_loopg [7] E.length (fun k s wr => ∃ L E', Hid (L.length = k) ∧ Hid (CopyInv w wr m w.heap.size (w.heap.size + 1) E L E'))
  case atStart =>
    refine ⟨E, [], rfl, ?_, hrg, ?_, fun p hp => hp, fun q => by simp, by omega⟩
    · exact ((Below.refl _ _).alloc (Nat.le_refl _) _).grown hg2 (by simp) (by simp)
    · exact (EMap.made w).frame (hg2.block _ (by simp) (by simp))
  case round =>
    clear hmm c1 hrg hg2 hs2
    obtain ⟨L, E', HL, HI⟩ := hrel
    have hrg1 := HI.out.2.1
    go_wp2_with (at_next; refine wpl_next rfl (.tmp 15) rfl m (w.heap.size + 1) rfl hrg1 ?_ ?_)
    · intro hL
      subst hL
      have hI : ChgInv w wr G cs 0 E' := ⟨HI.out.1, HI.out.2.2.1, ⟨HI.out.2.2.1.nodup, fun a b => by rw [HI.out.2.2.2.2.1]; simp only [List.not_mem_nil, not_false_eq_true, and_true]; exact HC.out.tells.2 a b⟩, HC.out.ok, by simp⟩
      have HI0 := Lib.hid hI
      clear hI hrg1 HI
      obtain ⟨wo, rfl⟩ : ∃ wo : World, wo = wr := ⟨_, rfl⟩
      go_wp2
      go_loopg [24] cs.length (fun g s wr => ∃ k : Nat, g + k = cs.length ∧ s = .int .i64 k ∧ ∃ E', Hid (ChgInv w wr G cs k E'))
      case atStart => exact ⟨0, rfl, rfl, E', HI0⟩
      case round =>
        obtain ⟨k, hk, rfl, E2, H2⟩ := hrel
        have HKk := Lib.hid hk
        clear hk
        by_cases hlt : k < cs.length
        · have hcv := HK.out.at_ H2.out.1
          obtain ⟨bb, off, p, rfl, _, _, hcc, X⟩ := hcv.get encC_len k hlt
          have d0 := hcc 0 (by omega)
          have d1 := hcc 1 (by omega)
          have d2 := hcc 2 (by omega)
          obtain ⟨⟨x, y⟩, gone⟩ := p
          simp only [encC, Nat.add_zero, List.getElem?_cons_zero, List.getElem?_cons_succ] at d0 d1 d2
          clear hcc hcv
          have hmb := H2.out.2.1.lt
          have hsz := H2.out.1.size
          have c0 : ∀ o, (wr.alloc o).cell? ⟨b, 0, none⟩ = some (.int .i64 (G.n : Int)) := fun o => (HC.out.at_ (H2.out.1.alloc H2.out.1.size o)).c0
          have hsp : cs.take (k + 1) = cs.take k ++ [((x, y), gone)] := take_snoc' X.out
          have hn : (G.changed (cs.take k)).n = G.n := changed_n _ _
          by_cases hx : 0 ≤ x ∧ x < G.n
          · by_cases hy : 0 ≤ y ∧ y < G.n
            · have hok : okP G.n ((x, y), gone).1 = true := okP_iff.2 ⟨hx, hy⟩
              have hnext : ∀ w4 : World, Below w.heap.size w w4 → EMap w4 w.heap.size (stepC E2 ((x, y), gone)) → ChgInv w w4 G cs (k + 1) (stepC E2 ((x, y), gone)) := by
                intro w4 hb he
                refine ⟨hb, he, ?_, ?_, ?_⟩
                · rw [hsp, changed_snoc]
                  exact tells_chg H2.out.2.2.2.1 H2.out.2.2.1 (by rw [hn]; exact hok)
                · rw [hsp, changed_snoc]
                  exact chg_ok H2.out.2.2.2.1 (by rw [hn]; exact hok)
                · intro c hc
                  rw [hsp] at hc
                  rcases List.mem_append.1 hc with hc | hc
                  · exact H2.out.2.2.2.2 c hc
                  · rw [List.mem_singleton.1 hc]; exact hok
              have HN := Lib.hid hnext
              clear hnext hok
              by_cases hxy : x = y
              · subst hxy
                go_wp2
                go_quiet ((first | (with_reducible refine (is_yes x _ _ (by omega)).mono ?_; rintro e w' ⟨rfl, rfl⟩; exact ⟨rfl, _, rfl⟩) | (with_reducible refine (is_yes y _ _ (by omega)).mono ?_; rintro e w' ⟨rfl, rfl⟩; exact ⟨rfl, _, rfl⟩)))
                go_wp2
                go_roundg (cs.length - (k + 1))
                case measure => have := HKk.out; omega
                case rel =>
                  refine ⟨k + 1, by omega, by go_num, stepC E2 ((x, x), gone), HN.out _ (below_drewN (H2.out.1.alloc H2.out.1.size _) _) ?_⟩
                  rw [stepC, if_pos rfl]
                  exact H2.out.2.1.frame (Below.heap_alloc _ _ _ hmb)
              · have hb2 : (x == y) = false := by simpa using hxy
                cases hgone : gone with
                | true =>
                  subst hgone
                  go_wp2
                  go_quiet ((first | (with_reducible refine (is_yes x _ _ (by omega)).mono ?_; rintro e w' ⟨rfl, rfl⟩; exact ⟨rfl, _, rfl⟩) | (with_reducible refine (is_yes y _ _ (by omega)).mono ?_; rintro e w' ⟨rfl, rfl⟩; exact ⟨rfl, _, rfl⟩)))
                  go_wp2_with (first
                    | (go_at_call 110; refine (key_any _ _ _).mono ?_; rintro e w' ⟨rfl, rfl⟩)
                    | (at_delete; refine wpl_delete rfl (.tmp 62) (.tmp 67) rfl w.heap.size (min x y) (max x y) rfl rfl ((H2.out.2.1.frame (Below.heap_alloc _ _ _ hmb)).frame (w' := (wr.alloc (.cells #[.int .i64 x, .int .i64 y, .bool true] 46)).drewN nq |>.alloc (.cells #[.int .i64 (min x y), .int .i64 (max x y)] 121)) (Below.heap_alloc _ _ _ (by simp; omega))) (by unfold Wf; omega) (by unfold Wf; omega) ?_; intro w4 hE4 hg4 hs4))
                  go_roundg (cs.length - (k + 1))
                  case measure => have := HKk.out; omega
                  case rel =>
                    refine ⟨k + 1, by omega, by go_num, stepC E2 ((x, y), true), HN.out _ (((below_drewN (H2.out.1.alloc H2.out.1.size _) _).alloc (by have := H2.out.1.size; simp; omega) _).grown hg4 (by have := H2.out.1.size; simp; omega) (fun c hc => by injection hc; omega)) ?_⟩
                    rw [stepC, if_neg hxy, if_pos rfl]
                    exact hE4
                | false =>
                  subst hgone
                  go_wp2
                  go_quiet ((first | (with_reducible refine (is_yes x _ _ (by omega)).mono ?_; rintro e w' ⟨rfl, rfl⟩; exact ⟨rfl, _, rfl⟩) | (with_reducible refine (is_yes y _ _ (by omega)).mono ?_; rintro e w' ⟨rfl, rfl⟩; exact ⟨rfl, _, rfl⟩)))
                  go_wp2_with (first
                    | (go_at_call 110; refine (key_any _ _ _).mono ?_; rintro e w' ⟨rfl, rfl⟩)
                    | (at_mapUpdate; refine wpl_update rfl (.tmp 28) (.tmp 33) _ rfl w.heap.size (min x y) (max x y) rfl rfl rfl ((H2.out.2.1.frame (Below.heap_alloc _ _ _ hmb)).frame (w' := (wr.alloc (.cells #[.int .i64 x, .int .i64 y, .bool false] 46)).drewN nq |>.alloc (.cells #[.int .i64 (min x y), .int .i64 (max x y)] 121)) (Below.heap_alloc _ _ _ (by simp; omega))) (by unfold Wf; omega) (by unfold Wf; omega) ?_; intro w4 hE4 hg4 hs4))
                  go_roundg (cs.length - (k + 1))
                  case measure => have := HKk.out; omega
                  case rel =>
                    refine ⟨k + 1, by omega, by go_num, stepC E2 ((x, y), false), HN.out _ (((below_drewN (H2.out.1.alloc H2.out.1.size _) _).alloc (by have := H2.out.1.size; simp; omega) _).grown hg4 (by have := H2.out.1.size; simp; omega) (fun c hc => by injection hc; omega)) ?_⟩
                    rw [stepC, if_neg hxy, if_neg (by simp)]
                    exact hE4
            · go_wp2
              go_quiet ((first | (with_reducible refine (is_yes x _ _ (by omega)).mono ?_; rintro e w' ⟨rfl, rfl⟩; exact ⟨rfl, _, rfl⟩) | (with_reducible refine (is_no y _ _ (by omega)).mono ?_; rintro e w' ⟨rfl, rfl⟩; exact ⟨rfl, _, rfl⟩)))
              go_wp2
              go_ret2
              have hm : ((x, y), gone) ∈ cs := List.mem_of_getElem? X.out
              exact ⟨below_drewN (H2.out.1.alloc H2.out.1.size _) _, fun h => absurd (okP_iff.1 (h _ hm)).2 hy, fun _ => rfl⟩
          · go_wp2
            go_quiet ((refine (is_no x _ _ (by omega)).mono ?_; rintro e w' ⟨rfl, rfl⟩; exact ⟨rfl, _, rfl⟩))
            go_wp2
            go_ret2
            have hm : ((x, y), gone) ∈ cs := List.mem_of_getElem? X.out
            exact ⟨below_drewN (H2.out.1.alloc H2.out.1.size _) _, fun h => absurd (okP_iff.1 (h _ hm)).1 hx, fun _ => rfl⟩
        · have hke : k = cs.length := by have := HKk.out; omega
          have hI := H2.out
          rw [hke, ChgInv, List.take_length] at hI
          have HI' := Lib.hid hI
          have hed : Edgy G.n E2 := by have := tells_edgy (G := G.changed cs) HI'.out.2.2.2.1 HI'.out.2.2.1; rwa [changed_n] at this
          have HED := Lib.hid hed
          have c0 := (HC.out.at_ HI'.out.1).c0
          have hsz : (w.heap.size : Nat) ≤ w.heap.size := Nat.le_refl _
          clear hI hed H2 hke HKk
          go_wp2_with (go_at_call 109; refine (of_any wr G.n hsm w.heap.size w.heap.size E2 HI'.out.2.1 HED.out (Nat.le_refl _)).mono ?_; rintro e w' ⟨hb, g, rfl, hg⟩; have HB := Lib.hid hb; have HG := Lib.hid hg; clear hb hg)
          go_ret2
          refine ⟨below_then' HI'.out.1 HB.out, fun _ => ⟨g, rfl, ?_⟩, fun ⟨c, hc, h⟩ => ?_⟩
          · have e := ofE_of_tells HI'.out.2.2.2.1 HI'.out.2.2.1
            rw [changed_n] at e
            rw [← e]
            exact HG.out
          · rw [HI'.out.2.2.2.2 c hc] at h; cases h
    · intro x y w3 hp hrg3 hg3 hs3 hen
      obtain ⟨hp0, hp1, hp2⟩ := (tells_edgy HC.out.ok HC.out.tells) (x, y) (HI.out.2.2.2.1 _ hp)
      simp only at hp0 hp1 hp2
      have hB3 : Below w.heap.size w w3 := HI.out.1.grown hg3 HI.out.1.size (fun c hc => by injection hc; omega)
      have hE3 : EMap w3 w.heap.size E' := HI.out.2.2.1.frame (hg3.block _ HI.out.2.2.1.lt (by intro e; injection e; omega))
      have hmb := hE3.lt
      have hr3 := hrg3.lt
      have HB3 := Lib.hid hB3
      have HE3 := Lib.hid hE3
      have HR3 := Lib.hid hrg3
      have HS3 := Lib.hid hs3
      have HP := Lib.hid hp
      clear hB3 hE3 hrg3 hg3 hs3 hrg1 hp
      have hx9 : x ≤ 9223372036854775807 := by omega
      have hy9 : y ≤ 9223372036854775807 := by omega
      unfold kv at hen ⊢
      go_wp2_with (at_mapUpdate; refine wpl_update rfl (.tmp 20) (.tmp 21) _ rfl w.heap.size x y rfl rfl rfl (HE3.out.frame (Below.heap_alloc _ _ _ hmb)) (by unfold Wf; omega) (by unfold Wf; omega) ?_; intro w4 hE4 hg4 hs4)
      go_roundg (less L (x, y)).length
      case measure => have := less_lt HP.out; have := HL.out; omega
      case rel =>
        have hR4 := HR3.out.frame (w' := w3.alloc (.cells #[.int .i64 x, .int .i64 y] 121)) (Below.heap_alloc _ _ _ hr3.1) (Below.heap_alloc _ _ _ hr3.2)
        refine ⟨_, addE E' (x, y), rfl, (HB3.out.alloc HB3.out.size _).grown hg4 (by have := HB3.out.size; simp; omega) (fun c hc => by injection hc; omega), hR4.frame (hg4.block _ hR4.lt.1 (by intro e; injection e; omega)) (hg4.block _ hR4.lt.2 (by intro e; injection e; omega)), hE4, fun p hp => HI.out.2.2.2.1 p (mem_less.1 hp).1, fun q => ?_, by rw [hs4]; simp; omega⟩
        rw [mem_addE, HI.out.2.2.2.2.1, mem_less]
        constructor
        · rintro (⟨a1, a2⟩ | rfl)
          · exact ⟨a1, fun h => a2 h.1⟩
          · exact ⟨HI.out.2.2.2.1 _ HP.out, fun h => h.2 rfl⟩
        · rintro ⟨a1, a2⟩
          by_cases e : q = (x, y)
          · exact .inr e
          · exact .inl ⟨a1, fun h => a2 ⟨h, e⟩⟩
end Go.Proofs.Ythbojpaghbbnnaa
namespace Go.Proofs.Ythbojpaghbbnnaa
set_option linter.unusedVariables false
set_option linter.unusedSimpArgs false
/-- b stands at the end of a way from a through vertices of K. -/
inductive Con (G : Gr) (K : Nat → Bool) (a : Nat) : Nat → Prop
  | here : Con G K a a
  | step {x y : Nat} : Con G K a x → G.adj x y = true → K y = true → Con G K a y
/-- All labels are below B, all kept vertices below D have one; T: the pairs still to be looked at. -/
structure PInv (G : Gr) (K : Nat → Bool) (B D : Nat) (p : List Int) (T : Nat → Nat → Prop) : Prop where
  len : p.length = G.n
  lab : ∀ (x : Nat) (a : Int), p[x]? = some a → a = -1 ∨ ∃ r : Nat, a = r ∧ r ≤ x ∧ r < B ∧ K r = true ∧ K x = true ∧ Con G K r x ∧ p[r]? = some (r : Int)
  don : ∀ x, x < G.n → x < D → K x = true → p[x]? ≠ some (-1)
  clo : ∀ x y, K x = true → K y = true → G.adj x y = true → p[x]? ≠ some (-1) → p[y]? = p[x]? ∨ T x y
def Parted (G : Gr) (K : Nat → Bool) (p : List Int) : Prop := PInv G K G.n G.n p (fun _ _ => False)
variable {G : Gr} {K : Nat → Bool} {B D v : Nat} {p : List Int} {T : Nat → Nat → Prop}
theorem PInv.start {G : Gr} (hG : G.Ok) (K : Nat → Bool) : PInv G K 0 0 (List.replicate G.n (-1)) (fun _ _ => False) where
  len := by simp
  lab x a h := by
    rw [List.getElem?_replicate] at h
    split at h
    · injection h with h; exact .inl h.symm
    · cases h
  don x _ h := by omega
  clo x y _ _ hk hx := by
    rw [List.getElem?_replicate, if_pos (hG.rng x y hk)] at hx
    exact absurd rfl hx
theorem PInv.weak {T' : Nat → Nat → Prop} (h : PInv G K B D p T) (ht : ∀ x y, K x = true → K y = true → G.adj x y = true → p[x]? ≠ some (-1) → T x y → p[y]? = p[x]? ∨ T' x y) : PInv G K B D p T' :=
  ⟨h.len, h.lab, h.don, fun x y h1 h2 h3 h4 => (h.clo x y h1 h2 h3 h4).elim .inl (ht x y h1 h2 h3 h4)⟩
theorem PInv.skip (h : PInv G K B D p T) (hd : K D = true → p[D]? ≠ some (-1)) : PInv G K (B + 1) (D + 1) p T where
  len := h.len
  lab x a k := (h.lab x a k).imp id (fun ⟨r, h1, h2, h3, h4⟩ => ⟨r, h1, h2, by omega, h4⟩)
  don x hn hx hk := by
    rcases Nat.lt_or_ge x D with h1 | h1
    · exact h.don x hn h1 hk
    · have : x = D := by omega
      subst this; exact hd hk
  clo := h.clo
theorem PInv.label {B' r w : Nat} (h : PInv G K B D p T) (hB : B ≤ B') (hw : p[w]? = some (-1)) (hr : r < B') (hrw : r ≤ w) (hKr : K r = true) (hKw : K w = true) (hc : Con G K r w) (hp : r = w ∨ p[r]? = some (r : Int)) :
    PInv G K B' D (p.set w r) (fun x y => T x y ∨ x = w) where
  len := by rw [List.length_set, h.len]
  lab x a k := by
    have hlt : w < p.length := (List.getElem?_eq_some_iff.1 hw).1
    by_cases e : w = x
    · subst e
      rw [get_set_eq _ hlt] at k
      injection k with k
      refine .inr ⟨r, k.symm, hrw, hr, hKr, hKw, hc, ?_⟩
      rcases hp with rfl | hp
      · exact get_set_eq _ hlt
      · by_cases e2 : w = r
        · subst e2; exact get_set_eq _ hlt
        · rw [get_set_ne _ e2]; exact hp
    · rw [get_set_ne _ e] at k
      refine (h.lab x a k).imp id (fun ⟨s, h1, h2, h3, h4, h5, h6, h7⟩ => ⟨s, h1, h2, by omega, h4, h5, h6, ?_⟩)
      have : w ≠ s := fun e => by subst e; rw [hw] at h7; injection h7 with h7; omega
      rw [get_set_ne _ this]; exact h7
  don x hn hx hk := by
    have hlt : w < p.length := (List.getElem?_eq_some_iff.1 hw).1
    by_cases e : w = x
    · subst e; rw [get_set_eq _ hlt]; intro k; injection k with k; omega
    · rw [get_set_ne _ e]; exact h.don x hn hx hk
  clo x y h1 h2 h3 h4 := by
    have hlt : w < p.length := (List.getElem?_eq_some_iff.1 hw).1
    by_cases e : w = x
    · exact .inr (.inr e.symm)
    · rw [get_set_ne _ e] at h4 ⊢
      rcases h.clo x y h1 h2 h3 h4 with k | k
      · have : w ≠ y := fun e => by subst e; rw [hw] at k; exact h4 k.symm
        rw [get_set_ne _ this]; exact .inl k
      · exact .inr (.inl k)
theorem Parted.con (h : Parted G K p) {r x : Nat} (hr : K r = true) (hn : p[r]? ≠ some (-1)) (hc : Con G K r x) : K x = true ∧ p[x]? = p[r]? := by
  induction hc with
  | here => exact ⟨hr, rfl⟩
  | step _ hk hy ih =>
    refine ⟨hy, ?_⟩
    rcases h.clo _ _ ih.1 hy hk (by rw [ih.2]; exact hn) with k | k
    · rw [k, ih.2]
    · exact absurd k id
theorem Parted.uniq {q : List Int} (h : Parted G K p) (k : Parted G K q) : p = q := by
  refine List.ext_getElem? (fun x => ?_)
  rcases Nat.lt_or_ge x G.n with hx | hx
  · obtain ⟨a, ha⟩ : ∃ a, p[x]? = some a := ⟨_, List.getElem?_eq_getElem (by rw [h.len]; exact hx)⟩
    obtain ⟨b, hb⟩ : ∃ b, q[x]? = some b := ⟨_, List.getElem?_eq_getElem (by rw [k.len]; exact hx)⟩
    by_cases hk : K x = true
    · have h1 := h.don x hx hx hk
      have h2 := k.don x hx hx hk
      rcases h.lab x a ha with rfl | ⟨r, rfl, r1, r2, r3, r4, r5, r6⟩
      · exact absurd ha h1
      · rcases k.lab x b hb with rfl | ⟨s, rfl, s1, s2, s3, s4, s5, s6⟩
        · exact absurd hb h2
        · have e1 := (h.con s3 (h.don s s2 s2 s3) s5).2
          have e2 := (k.con r3 (k.don r r2 r2 r3) r5).2
          rw [ha] at e1
          rw [hb] at e2
          have g1 : r ≤ s := by
            rcases h.lab s _ e1.symm with e | ⟨t, e, t1, _⟩
            · omega
            · omega
          have g2 : s ≤ r := by
            rcases k.lab r _ e2.symm with e | ⟨t, e, t1, _⟩
            · omega
            · omega
          rw [ha, hb, Nat.le_antisymm g1 g2]
    · have e1 : a = -1 := (h.lab x a ha).elim id (fun ⟨r, _, _, _, _, h5, _⟩ => absurd h5 hk)
      have e2 : b = -1 := (k.lab x b hb).elim id (fun ⟨r, _, _, _, _, h5, _⟩ => absurd h5 hk)
      rw [ha, hb, e1, e2]
  · rw [List.getElem?_eq_none (by rw [h.len]; exact hx), List.getElem?_eq_none (by rw [k.len]; exact hx)]
def cnt (p : List Int) : Nat := p.count (-1)
theorem cnt_set {p : List Int} {w : Nat} {r : Int} (h : p[w]? = some (-1)) (hr : r ≠ -1) : cnt (p.set w r) + 1 = cnt p := by
  induction p generalizing w with
  | nil => cases h
  | cons a p ih =>
    unfold cnt at *
    cases w with
    | zero =>
      rw [List.getElem?_cons_zero] at h
      injection h with h
      subst h
      rw [List.set_cons_zero, List.count_cons_of_ne hr, List.count_cons_self]
    | succ w =>
      rw [List.getElem?_cons_succ] at h
      have := ih h
      rw [List.set_cons_succ, List.count_cons, List.count_cons]
      omega
/-- Between two rounds of a root's search: what stands in todo is still to be looked at. -/
structure Srch (G : Gr) (K : Nat → Bool) (v : Nat) (p : List Int) (todo : List Int) (T : Nat → Nat → Prop) : Prop where
  inv : PInv G K (v + 1) (v + 1) p (fun x y => (x : Int) ∈ todo ∨ T x y)
  vn : v < G.n
  pv : p[v]? = some (v : Int)
  kv : K v = true
  tds : ∀ t ∈ todo, ∃ x : Nat, t = x ∧ x < G.n ∧ p[x]? = some (v : Int)
  few : 2 * cnt p + todo.length ≤ 2 * G.n + 1
def Next (G : Gr) (u k : Nat) (x y : Nat) : Prop := x = u ∧ y ∈ (G.nb u).drop k
theorem Srch.lab_u {v u : Nat} {todo : List Int} (h : Srch G K v p todo T) (hu : p[u]? = some (v : Int)) : K u = true ∧ Con G K v u := by
  rcases h.inv.lab u _ hu with e | ⟨r, e, _, _, _, h5, h6, _⟩
  · omega
  · have : r = v := by omega
    subst this
    exact ⟨h5, h6⟩
theorem Srch.pop {v u : Nat} {todo : List Int} (hG : G.Ok) (h : Srch G K v p (todo ++ [(u : Int)]) (fun _ _ => False)) : Srch G K v p todo (Next G u 0) ∧ u < G.n ∧ p[u]? = some (v : Int) := by
  obtain ⟨x, hx, hxn, hxp⟩ := h.tds (u : Int) (by simp)
  have : x = u := by omega
  subst this
  refine ⟨⟨h.inv.weak (fun a b h1 h2 h3 h4 k => .inr ?_), h.vn, h.pv, h.kv, fun t ht => h.tds t (by simp [ht]), ?_⟩, hxn, hxp⟩
  · rcases k with k | k
    · rcases List.mem_append.1 k with k | k
      · exact .inl k
      · rw [List.mem_singleton] at k
        have : a = x := by omega
        subst this
        exact .inr ⟨rfl, by rw [List.drop_zero]; exact (Gr.mem_nb hG).2 h3⟩
    · exact absurd k id
  · have := h.few
    simp at this
    omega
theorem next_split {u k w x y : Nat} (hw : (G.nb u)[k]? = some w) (h : Next G u k x y) : (x = u ∧ y = w) ∨ Next G u (k + 1) x y := by
  obtain ⟨rfl, h⟩ := h
  obtain ⟨hlt, e⟩ := List.getElem?_eq_some_iff.1 hw
  rw [List.drop_eq_getElem_cons hlt, e] at h
  rcases List.mem_cons.1 h with rfl | h
  · exact .inl ⟨rfl, rfl⟩
  · exact .inr ⟨rfl, h⟩
theorem Srch.pass {v u k w : Nat} {todo : List Int} (hG : G.Ok) (h : Srch G K v p todo (Next G u k)) (hu : p[u]? = some (v : Int)) (hw : (G.nb u)[k]? = some w) (hno : K w = true → p[w]? ≠ some (-1)) : Srch G K v p todo (Next G u (k + 1)) := by
  have hadj : G.adj u w = true := (Gr.mem_nb hG).1 (List.mem_of_getElem? hw)
  refine ⟨h.inv.weak (fun a b h1 h2 h3 h4 q => ?_), h.vn, h.pv, h.kv, h.tds, h.few⟩
  rcases q with q | q
  · exact .inr (.inl q)
  · rcases next_split hw q with ⟨rfl, rfl⟩ | q
    · refine .inl ?_
      rcases h.inv.clo b a h2 h1 (by rw [hG.symm]; exact hadj) (hno h2) with q | q | ⟨q, _⟩
      · exact q.symm
      · obtain ⟨x, hx, _, hxp⟩ := h.tds _ q
        have : x = b := by omega
        subst this
        rw [hxp, hu]
      · subst q; exact absurd hadj (by rw [hG.irr]; simp)
    · exact .inr (.inr q)
theorem Srch.push {v u k w : Nat} {todo : List Int} (hG : G.Ok) (h : Srch G K v p todo (Next G u k)) (hu : p[u]? = some (v : Int)) (hw : (G.nb u)[k]? = some w) (hk : K w = true) (hp : p[w]? = some (-1)) :
    Srch G K v (p.set w v) (todo ++ [(w : Int)]) (Next G u (k + 1)) ∧ (p.set w (v : Int))[u]? = some (v : Int) := by
  have hadj : G.adj u w = true := (Gr.mem_nb hG).1 (List.mem_of_getElem? hw)
  have hlt : w < p.length := (List.getElem?_eq_some_iff.1 hp).1
  have hwn : w < G.n := by rw [← h.inv.len]; exact hlt
  obtain ⟨hKu, hCu⟩ := h.lab_u hu
  have hvw : v ≤ w := by
    rcases Nat.lt_or_ge w (v + 1) with h1 | h1
    · exact absurd hp (h.inv.don w hwn h1 hk)
    · omega
  have hne : ∀ x, p[x]? = some (v : Int) → w ≠ x := fun x hx e => by subst e; rw [hp] at hx; injection hx with hx; omega
  have hset : ∀ x, p[x]? = some (v : Int) → (p.set w (v : Int))[x]? = some (v : Int) := fun x hx => by rw [get_set_ne _ (hne x hx)]; exact hx
  have h1 := h.inv.label (B' := v + 1) (r := v) (Nat.le_refl _) hp (by omega) hvw h.kv hk (.step hCu hadj hk) (.inr h.pv)
  have hc := cnt_set (r := (v : Int)) hp (by omega)
  refine ⟨⟨h1.weak (fun a b g1 g2 g3 g4 q => ?_), h.vn, hset v h.pv, h.kv, fun t ht => ?_, ?_⟩, hset u hu⟩
  · rcases q with (q | q) | q
    · exact .inr (.inl (List.mem_append.2 (.inl q)))
    · rcases next_split hw q with ⟨rfl, rfl⟩ | q
      · refine .inl ?_
        rw [hset a hu, get_set_eq _ hlt]
      · exact .inr (.inr q)
    · subst q; exact .inr (.inl (by simp))
  · rcases List.mem_append.1 ht with ht | ht
    · obtain ⟨x, e, hx, hxp⟩ := h.tds t ht
      exact ⟨x, e, hx, hset x hxp⟩
    · rw [List.mem_singleton] at ht
      exact ⟨w, ht, hwn, get_set_eq _ hlt⟩
  · have := h.few
    simp
    omega
theorem Srch.rest {v u k : Nat} {todo : List Int} (h : Srch G K v p todo (Next G u k)) (hk : (G.nb u).length ≤ k) : Srch G K v p todo (fun _ _ => False) := by
  refine ⟨h.inv.weak (fun a b h1 h2 h3 h4 q => .inr (q.imp id (fun q => ?_))), h.vn, h.pv, h.kv, h.tds, h.few⟩
  have := q.2
  rw [List.drop_eq_nil_of_le hk] at this
  cases this
theorem Srch.over {v : Nat} (h : Srch G K v p [] (fun _ _ => False)) : PInv G K (v + 1) (v + 1) p (fun _ _ => False) :=
  h.inv.weak (fun a b h1 h2 h3 h4 q => q.elim (fun q => by cases q) (fun q => absurd q id))
end Go.Proofs.Ythbojpaghbbnnaa
namespace Go.Proofs.Ythbojpaghbbnnaa
open Go.RowKit Go.WideMaps Go.Maps
set_option linter.unusedVariables false
set_option linter.unusedSimpArgs false
abbrev kK (keep : List Bool) : Nat → Bool := fun x => keep.getD x false
abbrev OI (w : World) (base : Nat) (v : Value) (xs : List Int) : Prop := Own1 w base 3 (Value.int .i64) v xs
structure PA (w wr : World) (n : Nat) (p : List Int) : Prop where
  below : Below w.heap.size w wr
  own : OI wr w.heap.size (.slice (some ⟨w.heap.size, 0, none⟩) n n) p
  len : p.length = n
theorem PA.size {w wr : World} {n : Nat} {p : List Int} (h : PA w wr n p) : w.heap.size < wr.heap.size := (h.own.lt rfl).2
structure PC (w wr : World) (n : Nat) (p : List Int) (tv : Value) (todo : List Int) : Prop where
  a : PA w wr n p
  t : OI wr (w.heap.size + 1) tv todo
theorem PA.set {w wr : World} {n k : Nat} {p : List Int} (h : PA w wr n p) (hk : k < n) (y : Int) : PA w (wr.setCell ⟨w.heap.size, k, none⟩ (.int .i64 y)) n (p.set k y) :=
  ⟨h.below.setCell (Nat.le_refl _) _, h.own.set k (by rw [h.len]; exact hk) y, by rw [List.length_set, h.len]⟩
theorem PC.set {w wr : World} {n k : Nat} {p todo : List Int} {tv : Value} (h : PC w wr n p tv todo) (hk : k < n) (y : Int) : PC w (wr.setCell ⟨w.heap.size, k, none⟩ (.int .i64 y)) n (p.set k y) tv todo :=
  ⟨h.a.set hk y, h.t.kept (grown_set _ _ _) (.inr (h.t.ne (by simp)))⟩
end Go.Proofs.Ythbojpaghbbnnaa
namespace Go.Proofs.Ythbojpaghbbnnaa.Z
open Go Go.RowKit
set_option linter.unusedVariables false
set_option linter.unusedSimpArgs false
/-- The document's graph G in memory. -/
def PRG (w : World) (lo hi : Nat) (v : Value) (G : Gr) : Prop :=
  G.Ok ∧ hi ≤ w.heap.size ∧ ∃ b t c, v = .pointer (some ⟨b, 0, none⟩) ∧ lo ≤ b ∧ b < hi ∧ w.heap[b]? = some (.cells #[.slice t G.n c] 126 (0, 0)) ∧
    Rows2 w lo hi (.slice t G.n c) G.n (fun u => up (G.nb u))
theorem PRG.frame {w w' : World} {lo hi : Nat} {v : Value} {G : Gr} (h : PRG w lo hi v G) (s : Same lo hi w w') : PRG w' lo hi v G := by
  obtain ⟨h0, h1, b, t, c, h2, h3, h4, h5, h6⟩ := h
  exact ⟨h0, Nat.le_trans h1 s.1, b, t, c, h2, h3, h4, (s.2 b h3 h4).trans h5, h6.frame s⟩
def rho : Obs := fun n => match n with
  | 0 => fun w v G => ∃ lo hi, PG w lo hi v G
  | _ => fun _ _ _ => False
theorem tr0 {U : Nat → Prop} {hd : Nat → Value} (w : World) : Tr (Us U 0 hd) w U w := fun _ k => k.mono (fun _ _ h => .inl h)
theorem tr0' {U : Nat → Prop} {hd : Nat → Value} (w : World) : Tr U w (Us U 0 hd) w := fun _ k => k.mono (fun _ _ h => h.elim id (fun ⟨i, hi, _⟩ => absurd hi (Nat.not_lt_zero i)))
theorem apart0 (hd : Nat → Value) : Apart 0 hd := fun i _ hi => absurd hi (Nat.not_lt_zero i)
section
variable {ρ : Obs} {P : Program} {f : FuncId}
def Res1 (ρ : Obs) (U : Nat → Prop) (w : World) (r : T) (y : r.den) (e : Ending) (w' : World) : Prop := Below w.heap.size w w' ∧ ∃ u, e = .returned u ∧ IRd ρ U w' r u y
def Res2 (ρ : Obs) (U : Nat → Prop) (w : World) (r s : T) (y : r.den) (z : s.den) (e : Ending) (w' : World) : Prop := Below w.heap.size w w' ∧ ∃ u v, e = .returned (.tuple #[u, v]) ∧ IRd ρ U w' r u y ∧ IRd ρ U w' s v z
theorem sound11 {fr : Bool} {t0 r0 : T} {pre : t0.den → Bool} {fn : t0.den → r0.den × Unit} (h : ∀ x0, pre x0 = true → ∀ w U U' v0, (∀ b, U' b → b < w.heap.size) → IRd ρ U w t0 v0 x0 → Calls P f #[v0] w (Res1 ρ U' w r0 (fn x0).1)) :
    Sound P ρ f ⟨[.val t0], [.val r0], fun d => match d with | (x0, _) => pre x0, fun d => match d with | (x0, _) => fn x0, fr⟩ := by
  intro d hp w U0 U1 hd0 vs hu hu1 hfr hap ha
  obtain ⟨x0, _⟩ := d
  match vs, ha with
  | [v0], ⟨h0, _⟩ =>
    refine (h x0 hp w U0 U1 v0 (fun b hb => (hu1 b hb).1) (h0.tr (tr0 w))).mono ?_
    rintro e w' ⟨hb, u, rfl, hr⟩
    exact ⟨[u], hd0, rfl, Ag.of_below hb _, fun _ hi => absurd hi (Nat.not_lt_zero _), fun _ hi => absurd hi (Nat.not_lt_zero _), apart0 _, trivial, hr.tr (tr0' w'), trivial⟩
theorem sound21 {fr : Bool} {t0 t1 r0 : T} {pre : t0.den → t1.den → Bool} {fn : t0.den → t1.den → r0.den × Unit} (h : ∀ x0 x1, pre x0 x1 = true → ∀ w U U' v0 v1, (∀ b, U' b → b < w.heap.size) → IRd ρ U w t0 v0 x0 → IRd ρ U w t1 v1 x1 → Calls P f #[v0, v1] w (Res1 ρ U' w r0 (fn x0 x1).1)) :
    Sound P ρ f ⟨[.val t0, .val t1], [.val r0], fun d => match d with | (x0, x1, _) => pre x0 x1, fun d => match d with | (x0, x1, _) => fn x0 x1, fr⟩ := by
  intro d hp w U0 U1 hd0 vs hu hu1 hfr hap ha
  obtain ⟨x0, x1, _⟩ := d
  match vs, ha with
  | [v0, v1], ⟨h0, h1, _⟩ =>
    refine (h x0 x1 hp w U0 U1 v0 v1 (fun b hb => (hu1 b hb).1) (h0.tr (tr0 w)) (h1.tr (tr0 w))).mono ?_
    rintro e w' ⟨hb, u, rfl, hr⟩
    exact ⟨[u], hd0, rfl, Ag.of_below hb _, fun _ hi => absurd hi (Nat.not_lt_zero _), fun _ hi => absurd hi (Nat.not_lt_zero _), apart0 _, trivial, hr.tr (tr0' w'), trivial⟩
theorem sound31 {fr : Bool} {t0 t1 t2 r0 : T} {pre : t0.den → t1.den → t2.den → Bool} {fn : t0.den → t1.den → t2.den → r0.den × Unit} (h : ∀ x0 x1 x2, pre x0 x1 x2 = true → ∀ w U U' v0 v1 v2, (∀ b, U' b → b < w.heap.size) → IRd ρ U w t0 v0 x0 → IRd ρ U w t1 v1 x1 → IRd ρ U w t2 v2 x2 → Calls P f #[v0, v1, v2] w (Res1 ρ U' w r0 (fn x0 x1 x2).1)) :
    Sound P ρ f ⟨[.val t0, .val t1, .val t2], [.val r0], fun d => match d with | (x0, x1, x2, _) => pre x0 x1 x2, fun d => match d with | (x0, x1, x2, _) => fn x0 x1 x2, fr⟩ := by
  intro d hp w U0 U1 hd0 vs hu hu1 hfr hap ha
  obtain ⟨x0, x1, x2, _⟩ := d
  match vs, ha with
  | [v0, v1, v2], ⟨h0, h1, h2, _⟩ =>
    refine (h x0 x1 x2 hp w U0 U1 v0 v1 v2 (fun b hb => (hu1 b hb).1) (h0.tr (tr0 w)) (h1.tr (tr0 w)) (h2.tr (tr0 w))).mono ?_
    rintro e w' ⟨hb, u, rfl, hr⟩
    exact ⟨[u], hd0, rfl, Ag.of_below hb _, fun _ hi => absurd hi (Nat.not_lt_zero _), fun _ hi => absurd hi (Nat.not_lt_zero _), apart0 _, trivial, hr.tr (tr0' w'), trivial⟩
theorem sound22 {fr : Bool} {t0 t1 r0 r1 : T} {pre : t0.den → t1.den → Bool} {fn : t0.den → t1.den → r0.den × r1.den × Unit} (h : ∀ x0 x1, pre x0 x1 = true → ∀ w U U' v0 v1, (∀ b, U' b → b < w.heap.size) → IRd ρ U w t0 v0 x0 → IRd ρ U w t1 v1 x1 → Calls P f #[v0, v1] w (Res2 ρ U' w r0 r1 (fn x0 x1).1 (fn x0 x1).2.1)) :
    Sound P ρ f ⟨[.val t0, .val t1], [.val r0, .val r1], fun d => match d with | (x0, x1, _) => pre x0 x1, fun d => match d with | (x0, x1, _) => fn x0 x1, fr⟩ := by
  intro d hp w U0 U1 hd0 vs hu hu1 hfr hap ha
  obtain ⟨x0, x1, _⟩ := d
  match vs, ha with
  | [v0, v1], ⟨h0, h1, _⟩ =>
    refine (h x0 x1 hp w U0 U1 v0 v1 (fun b hb => (hu1 b hb).1) (h0.tr (tr0 w)) (h1.tr (tr0 w))).mono ?_
    rintro e w' ⟨hb, u, v, rfl, hr, hs⟩
    exact ⟨[u, v], hd0, rfl, Ag.of_below hb _, fun _ hi => absurd hi (Nat.not_lt_zero _), fun _ hi => absurd hi (Nat.not_lt_zero _), apart0 _, trivial, hr.tr (tr0' w'), hs.tr (tr0' w'), trivial⟩
end
section
variable {ρ : Obs} {U : Nat → Prop} {w : World}
theorem cell_lt {a : Addr} {v : Value} (h : w.cell? a = some v) : a.block < w.heap.size := by
  unfold World.cell? at h
  split at h
  · rename_i hb
    exact (Array.getElem?_eq_some_iff.1 hb).1
  · cases h
theorem els_flat {α : Type} {Q : List Value → α → Prop} {enc : α → List Value} (he : ∀ c x, Q c x → c = enc x) : ∀ {ds : List Value} {xs : List α}, Els Q ds xs → ds = xs.flatMap enc
  | _, [], h => h
  | _, x :: xs, ⟨c, r, e, hq, hr⟩ => by rw [e, he _ _ hq, els_flat he hr, List.flatMap_cons]
theorem flat_els {α : Type} {Q : List Value → α → Prop} {enc : α → List Value} (he : ∀ x, Q (enc x) x) : ∀ xs : List α, Els Q (xs.flatMap enc) xs
  | [] => rfl
  | x :: xs => ⟨enc x, _, List.flatMap_cons, he x, flat_els he xs⟩
theorem sl_in {t : T} {enc : t.den → List Value} (he : ∀ cs x, ICs ρ U w t cs x → cs = enc x) {v : Value} {xs : List t.den} (h : IRd ρ U w (.list t) v xs) : Sl w 0 w.heap.size t.size v xs.length (xs.flatMap enc) := by
  obtain ⟨cs, rfl, A, c, ds, rfl, h1, h2, h3, h4⟩ := h
  have hlen : ds.length = xs.length * t.size := Els.length (fun c x q => ICs.length q) h3
  have hds := els_flat he h3
  subst hds
  refine ⟨Nat.le_refl _, hlen, h1, A, c, rfl, fun hn => ?_⟩
  obtain ⟨b, off, rfl, h5⟩ := h4 hn
  have h6 := h5 w (Ag.refl _ _)
  have hp : 0 < (xs.flatMap enc).length := by rw [hlen]; exact Nat.mul_pos hn (T.size_pos t)
  refine ⟨b, off, rfl, Nat.zero_le _, ?_, fun j hj => h6 j (by rw [hlen]; exact hj)⟩
  have := h6 0 hp
  rw [List.getElem?_eq_getElem hp] at this
  exact cell_lt this
theorem flat_one {α : Type} (f : α → Value) (xs : List α) : xs.flatMap (fun x => [f x]) = xs.map f := by
  induction xs with
  | nil => rfl
  | cons x xs ih => rw [List.flatMap_cons, ih]; rfl
theorem ints_in {v : Value} {xs : List Int} (h : IRd ρ U w (.list I64) v xs) : Ints w 0 w.heap.size v xs := by
  have := sl_in (t := I64) (enc := fun x : Int => [Value.int .i64 x]) (fun _ _ h => h) h
  rw [flat_one] at this
  exact this
theorem bools_in {v : Value} {xs : List Bool} (h : IRd ρ U w (.list .bool) v xs) : Bools w 0 w.heap.size v xs := by
  have := sl_in (t := .bool) (enc := fun x : Bool => [Value.bool x]) (fun _ _ h => h) h
  rw [flat_one] at this
  exact this
theorem ics_pr {cs : List Value} {x : Int × Int} : ICs ρ U w Pr cs x ↔ cs = encP x := by
  constructor
  · rintro ⟨c, d, rfl, rfl, rfl⟩; rfl
  · rintro rfl; exact ⟨[_], [_], rfl, rfl, rfl⟩
theorem prs_in {v : Value} {xs : List (Int × Int)} (h : IRd ρ U w (.list Pr) v xs) : Prs w 0 w.heap.size v xs := sl_in (t := Pr) (enc := encP) (fun _ _ h => ics_pr.1 h) h
abbrev Cg : T := .pair I64 (.pair I64 .bool)
def toC (c : Int × Int × Bool) : Chg := ((c.1, c.2.1), c.2.2)
theorem ics_cg {cs : List Value} {x : Int × Int × Bool} : ICs ρ U w Cg cs x ↔ cs = encC (toC x) := by
  constructor
  · rintro ⟨c, d, rfl, rfl, e, f, rfl, rfl, rfl⟩; rfl
  · rintro rfl; exact ⟨[_], [_, _], rfl, rfl, [_], [_], rfl, rfl, rfl⟩
theorem flat_map' {α β : Type} (f : α → β) (enc : β → List Value) (xs : List α) : xs.flatMap (fun x => enc (f x)) = (xs.map f).flatMap enc := by
  induction xs with
  | nil => rfl
  | cons x xs ih => rw [List.flatMap_cons, ih]; rfl
theorem chs_in {v : Value} {xs : List (Int × Int × Bool)} (h : IRd ρ U w (.list Cg) v xs) : Chs w 0 w.heap.size v (xs.map toC) := by
  have := sl_in (t := Cg) (enc := fun x => encC (toC x)) (fun _ _ h => ics_cg.1 h) h
  rw [flat_map'] at this
  show Sl _ _ _ _ _ _ _
  rw [List.length_map]
  exact this
theorem pg_in {v : Value} {g : Option Gr} (h : IRd rho U w (.obj 0) v g) (hg : g.isSome = true) : ∃ G lo hi, g = some G ∧ PG w lo hi v G := by
  obtain ⟨cs, rfl, v, rfl, h⟩ := h
  cases g with
  | none => cases hg
  | some G =>
    obtain ⟨_, h2⟩ := h
    obtain ⟨lo, hi, h3⟩ := h2 w (Ag.refl _ _)
    exact ⟨G, lo, hi, rfl, h3⟩
theorem same_ag {lo hi : Nat} {w' : World} (h : Ag U w w') (hU : ∀ b, U b → b < lo) (hh : hi ≤ w.heap.size) : Same lo hi w w' := ⟨h.size, fun b h1 h2 => h.block b (by omega) (fun hb => by have := hU b hb; omega)⟩
theorem pg_out {v : Value} {G : Gr} {lo hi : Nat} (h : PG w lo hi v G) (hU : ∀ b, U b → b < lo) : IRd rho U w (.obj 0) v (some G) := by
  obtain ⟨_, _, b, _, _, _, _, rfl, _⟩ := id h
  exact ⟨[_], rfl, _, rfl, ⟨_, rfl⟩, fun w' ha => ⟨lo, hi, h.frame (same_ag ha hU h.2.1)⟩⟩
theorem nil_out {n : Nat} : IRd ρ U w (.obj n) (.pointer none) none := ⟨[_], rfl, _, rfl, rfl⟩
theorem int_out {k : IntKind} (x : Int) : IRd ρ U w (.int k) (.int k x) x := ⟨[_], rfl, rfl⟩
theorem bool_out (x : Bool) : IRd ρ U w .bool (.bool x) x := ⟨[_], rfl, rfl⟩
/-- A fresh row as a value. -/
theorem row_out {t : T} {e : TypeId} {base n : Nat} {v : Value} {cs : List Value} {xs : List t.den} (h : w.ownsRow base e t.size v n cs) (hn : n = xs.length) (he : Els (ICs ρ U w t) cs xs) (hU : ∀ b, U b → b < base) : IRd ρ U w (.list t) v xs := by
  subst hn
  have hs := sl_own h
  obtain ⟨_, h1, h2, A, c, rfl, h3⟩ := hs
  refine ⟨[_], rfl, A, c, cs, rfl, h2, ?_, he, fun hp => ?_⟩
  · rcases h.2 with ⟨e1, _⟩ | ⟨g, cap, cur, e1, _, _, h5, _⟩
    · injection e1 with e1 e2 e3
      omega
    · injection e1 with e1 e2 e3
      omega
  · obtain ⟨b, off, rfl, h4, h5, h6⟩ := h3 hp
    refine ⟨b, off, rfl, fun w' ha j hj => ?_⟩
    rw [World.cell?_of_block (ha.block b h5 (fun hb => by have := hU b hb; omega))]
    exact h6 j (by omega)
theorem row_flat {t : T} {enc : t.den → List Value} (he : ∀ x, ICs ρ U w t (enc x) x) {e : TypeId} {base n : Nat} {v : Value} {xs : List t.den} (h : w.ownsRow base e t.size v n (xs.flatMap enc)) (hn : n = xs.length) (hU : ∀ b, U b → b < base) : IRd ρ U w (.list t) v xs :=
  row_out h hn (flat_els he xs) hU
theorem ints_out {base n : Nat} {v : Value} {xs : List Int} (h : w.ownsRow base 3 1 v n (xs.map (Value.int .i64))) (hn : n = xs.length) (hU : ∀ b, U b → b < base) : IRd ρ U w (.list I64) v xs := by
  rw [← flat_one] at h
  exact row_flat (t := I64) (enc := fun x : Int => [Value.int .i64 x]) (fun _ => rfl) h hn hU
theorem prs_out {base n : Nat} {v : Value} {xs : List (Int × Int)} (h : w.ownsRow base 32 2 v n (xs.flatMap encP)) (hn : n = xs.length) (hU : ∀ b, U b → b < base) : IRd ρ U w (.list Pr) v xs :=
  row_flat (t := Pr) (enc := encP) (fun _ => ics_pr.2 rfl) h hn hU
theorem lists_out {base : Nat} {v : Value} {L : List (Int × List Int)} (h : OwnL w base v L) (hU : ∀ b, U b → b < base) : IRd ρ U w (.list (.pair I64 (.list I64))) v L := by
  obtain ⟨vs, h1, h2, h3⟩ := h
  refine row_out (t := .pair I64 (.list I64)) h2 rfl ?_ hU
  clear h2
  induction L generalizing vs with
  | nil => cases vs with
    | nil => rfl
    | cons x vs => simp at h1
  | cons p L ih => cases vs with
    | nil => simp at h1
    | cons x vs =>
      refine ⟨[.int .i64 p.1, x], mixL L vs, rfl, ?_, ih vs (by simpa using h1) (fun i p x a b => h3 (i + 1) p x (by simpa using a) (by simpa using b))⟩
      have h4 := h3 0 p x rfl rfl
      obtain ⟨cs, e, h5⟩ := ints_out (ρ := ρ) (U := U) h4 rfl hU
      obtain ⟨A, c, ds, rfl, h6⟩ := h5
      exact ⟨[_], [x], rfl, rfl, A, c, ds, by rw [e]; rfl, h6⟩
end
def gr (g : Option Gr) : Gr := g.getD ⟨0, fun _ _ => false⟩
theorem gr_some (G : Gr) : gr (some G) = G := rfl
def wf (x : Int) : Bool := decide (-9223372036854775808 ≤ x) && decide (x ≤ 9223372036854775807)
theorem wf_iff {x : Int} : wf x = true ↔ Wf x := by simp [wf, Wf]
namespace N
abbrev ps : List PM := [.val (.obj 0)]
abbrev rs : List PM := [.val I64]
noncomputable def pre (g : Option Gr) : Bool := g.isSome
noncomputable def fn (g : Option Gr) : Int × Unit := (((gr g).n : Int), ())
noncomputable def sig : Sig := ⟨ps, rs, fun d => match d with
  | (g, _) => pre g, fun d => match d with
  | (g, _) => fn g, true⟩
theorem sound : Sound Try.prog rho 93 sig := sound11 (fun (g : Option Gr) hp w U U' v0 hU h0 => by
  obtain ⟨G, lo, hi, rfl, hG⟩ := pg_in h0 hp
  refine (N_any w hG).mono ?_
  rintro e w' ⟨rfl, rfl⟩
  exact ⟨Below.refl _ _, _, rfl, int_out _⟩)
theorem enters : Enters Try.prog 93 := enters_of (fn := Try.f93) (by kernel_rfl) (by kernel_rfl) (by kernel_rfl)
theorem okR : Enters Try.prog 93 ∧ Sound Try.prog rho 93 sig := ⟨enters, sound⟩
end N
namespace Degree
abbrev ps : List PM := [.val (.obj 0), .val I64]
abbrev rs : List PM := [.val I64]
noncomputable def pre (g : Option Gr) (v : Int) : Bool := g.isSome
noncomputable def fn (g : Option Gr) (v : Int) : Int × Unit := (if 0 ≤ v then (((gr g).nb v.toNat).length : Int) else 0, ())
noncomputable def sig : Sig := ⟨ps, rs, fun d => match d with
  | (g, v, _) => pre g v, fun d => match d with
  | (g, v, _) => fn g v, true⟩
theorem sound : Sound Try.prog rho 46 sig := sound21 (fun (g : Option Gr) (v : Int) hp w U U' v0 v1 hU h0 h1 => by
  obtain ⟨G, lo, hi, rfl, hG⟩ := pg_in h0 hp
  obtain rfl := h1.int
  refine (Degree_any w hG v).mono ?_
  rintro e w' ⟨rfl, rfl⟩
  exact ⟨Below.refl _ _, _, rfl, int_out _⟩)
theorem enters : Enters Try.prog 46 := enters_of (fn := Try.f46) (by kernel_rfl) (by kernel_rfl) (by kernel_rfl)
theorem okR : Enters Try.prog 46 ∧ Sound Try.prog rho 46 sig := ⟨enters, sound⟩
end Degree
namespace Neighbours
abbrev ps : List PM := [.val (.obj 0), .val I64]
abbrev rs : List PM := [.val (.list I64)]
noncomputable def pre (g : Option Gr) (v : Int) : Bool := g.isSome
noncomputable def fn (g : Option Gr) (v : Int) : (List Int) × Unit := (up ((gr g).nbz v), ())
noncomputable def sig : Sig := ⟨ps, rs, fun d => match d with
  | (g, v, _) => pre g v, fun d => match d with
  | (g, v, _) => fn g v, true⟩
theorem sound : Sound Try.prog rho 38 sig := sound21 (fun (g : Option Gr) (v : Int) hp w U U' v0 v1 hU h0 h1 => by
  obtain ⟨G, lo, hi, rfl, hG⟩ := pg_in h0 hp
  obtain rfl := h1.int
  refine (Neighbours_any w hG v).mono ?_
  rintro e w' ⟨hb, x, rfl, hx⟩
  exact ⟨hb, _, rfl, ints_out hx (up_length _).symm hU⟩)
theorem enters : Enters Try.prog 38 := enters_of (fn := Try.f38) (by kernel_rfl) (by kernel_rfl) (by kernel_rfl)
theorem okR : Enters Try.prog 38 ∧ Sound Try.prog rho 38 sig := ⟨enters, sound⟩
end Neighbours
namespace Has
abbrev ps : List PM := [.val (.obj 0), .val I64, .val I64]
abbrev rs : List PM := [.val .bool]
noncomputable def pre (g : Option Gr) (u : Int) (v : Int) : Bool := g.isSome && (wf u && wf v)
noncomputable def fn (g : Option Gr) (u : Int) (v : Int) : Bool × Unit := ((gr g).has u v, ())
noncomputable def sig : Sig := ⟨ps, rs, fun d => match d with
  | (g, u, v, _) => pre g u v, fun d => match d with
  | (g, u, v, _) => fn g u v, true⟩
theorem sound : Sound Try.prog rho 41 sig := sound31 (fun (g : Option Gr) (u : Int) (v : Int) hp w U U' v0 v1 v2 hU h0 h1 h2 => by
  have hp := (show (g.isSome && (wf u && wf v)) = true from hp)
  rw [Bool.and_eq_true, Bool.and_eq_true] at hp
  obtain ⟨G, lo, hi, rfl, hG⟩ := pg_in h0 hp.1
  obtain rfl := h1.int
  obtain rfl := h2.int
  refine (Has_any w hG u v (wf_iff.1 hp.2.1) (wf_iff.1 hp.2.2)).mono ?_
  rintro e w' ⟨rfl, hb⟩
  exact ⟨hb, _, rfl, bool_out _⟩)
theorem enters : Enters Try.prog 41 := enters_of (fn := Try.f41) (by kernel_rfl) (by kernel_rfl) (by kernel_rfl)
theorem okR : Enters Try.prog 41 ∧ Sound Try.prog rho 41 sig := ⟨enters, sound⟩
end Has
namespace Pairs
abbrev ps : List PM := [.val (.obj 0)]
abbrev rs : List PM := [.val (.list Pr)]
noncomputable def pre (g : Option Gr) : Bool := g.isSome && decide ((gr g).n ≤ 4096)
noncomputable def fn (g : Option Gr) : (List (Int × Int)) × Unit := (upP (gr g).pairs, ())
noncomputable def sig : Sig := ⟨ps, rs, fun d => match d with
  | (g, _) => pre g, fun d => match d with
  | (g, _) => fn g, true⟩
theorem sound : Sound Try.prog rho 35 sig := sound11 (fun (g : Option Gr) hp w U U' v0 hU h0 => by
  have hp := (show (g.isSome && decide ((gr g).n ≤ 4096)) = true from hp)
  rw [Bool.and_eq_true] at hp
  obtain ⟨G, lo, hi, rfl, hG⟩ := pg_in h0 hp.1
  refine (Pairs_any w hG (of_decide_eq_true hp.2)).mono ?_
  rintro e w' ⟨hb, x, rfl, hx⟩
  exact ⟨hb, _, rfl, prs_out hx rfl hU⟩)
theorem enters : Enters Try.prog 35 := enters_of (fn := Try.f35) (by kernel_rfl) (by kernel_rfl) (by kernel_rfl)
theorem okR : Enters Try.prog 35 ∧ Sound Try.prog rho 35 sig := ⟨enters, sound⟩
end Pairs
open Classical in
noncomputable def parts (G : Gr) (k : List Bool) : List Int := if h : ∃ p, Parted G (kK k) p then Classical.choose h else []
def chgOk (G : Gr) (cs : List (Int × Int × Bool)) : Bool := cs.all (fun c => okP G.n (toC c).1)
namespace Changed
abbrev ps : List PM := [.val (.obj 0), .val (.list Cg)]
abbrev rs : List PM := [.val (.obj 0), .val I64]
noncomputable def pre (g : Option Gr) (l : List (Int × Int × Bool)) : Bool := g.isSome
noncomputable def fn (g : Option Gr) (l : List (Int × Int × Bool)) : (Option Gr) × Int × Unit := if chgOk (gr g) l = true then (some ((gr g).changed (l.map toC)), 0, ()) else (none, 42, ())
noncomputable def sig : Sig := ⟨ps, rs, fun d => match d with
  | (g, l, _) => pre g l, fun d => match d with
  | (g, l, _) => fn g l, true⟩
theorem sound : Sound Try.prog rho 43 sig := sound22 (fun (g : Option Gr) (l : List (Int × Int × Bool)) hp w U U' v0 v1 hU h0 h1 => by
  obtain ⟨G, lo, hi, rfl, hG⟩ := pg_in h0 hp
  refine (Changed_any w hG (chs_in h1)).mono ?_
  rintro e w' ⟨hb, hx, hy⟩
  by_cases hc : chgOk G l = true
  · obtain ⟨x, rfl, hx2⟩ := hx (fun c h => by
      obtain ⟨d, hd, rfl⟩ := List.mem_map.1 h
      exact List.all_eq_true.1 hc d hd)
    rw [fn, gr_some, if_pos hc]
    exact ⟨hb, _, _, rfl, pg_out hx2 hU, int_out 0⟩
  · obtain rfl := hy (by
      have : ∃ d ∈ l, okP G.n (toC d).1 = false := by
        simp only [chgOk, List.all_eq_true, Classical.not_forall] at hc
        obtain ⟨d, hd, hk⟩ := hc
        exact ⟨d, hd, by simpa using hk⟩
      obtain ⟨d, hd, hk⟩ := this
      exact ⟨toC d, List.mem_map.2 ⟨d, hd, rfl⟩, hk⟩)
    rw [fn, gr_some, if_neg hc]
    exact ⟨hb, _, _, rfl, nil_out, int_out 42⟩)
theorem enters : Enters Try.prog 43 := enters_of (fn := Try.f43) (by kernel_rfl) (by kernel_rfl) (by kernel_rfl)
theorem okR : Enters Try.prog 43 ∧ Sound Try.prog rho 43 sig := ⟨enters, sound⟩
end Changed
def prsOk (n : Int) (l : List (Int × Int)) : Bool := l.all (fun p => okP n.toNat p)
def inN (n : Int) : Bool := decide (0 ≤ n) && decide (n ≤ 16777216)
namespace Make
abbrev ps : List PM := [.val I64, .val (.list Pr)]
abbrev rs : List PM := [.val (.obj 0), .val I64]
noncomputable def pre (n : Int) (l : List (Int × Int)) : Bool := true
noncomputable def fn (n : Int) (l : List (Int × Int)) : (Option Gr) × Int × Unit := if inN n = true then (if prsOk n l = true then (some (Gr.ofPairs n.toNat l), 0, ()) else (none, 42, ())) else (none, 41, ())
noncomputable def sig : Sig := ⟨ps, rs, fun d => match d with
  | (n, l, _) => pre n l, fun d => match d with
  | (n, l, _) => fn n l, true⟩
theorem sound : Sound Try.prog rho 105 sig := sound22 (fun (n : Int) (l : List (Int × Int)) hp w U U' v0 v1 hU h0 h1 => by
  obtain rfl := h0.int
  by_cases hn : inN n = true
  · have hn' : 0 ≤ n ∧ n ≤ 16777216 := by simpa [inN] using hn
    obtain ⟨m, rfl⟩ := Int.eq_ofNat_of_zero_le hn'.1
    refine (Make_in w m (by omega) (prs_in h1)).mono ?_
    rintro e w' ⟨hb, hx, hy⟩
    by_cases hc : prsOk (m : Int) l = true
    · obtain ⟨x, rfl, hx2⟩ := hx (fun p h => List.all_eq_true.1 hc p h)
      rw [fn, if_pos hn, if_pos hc]
      exact ⟨hb, _, _, rfl, pg_out hx2 hU, int_out 0⟩
    · obtain rfl := hy (by
        simp only [prsOk, List.all_eq_true, Classical.not_forall] at hc
        obtain ⟨d, hd, hk⟩ := hc
        exact ⟨d, hd, by simpa using hk⟩)
      rw [fn, if_pos hn, if_neg hc]
      exact ⟨hb, _, _, rfl, nil_out, int_out 42⟩
  · refine (Make_out w n v1 (by simp [inN] at hn; omega)).mono ?_
    rintro e w' ⟨rfl, hb⟩
    rw [fn, if_neg hn]
    exact ⟨hb, _, _, rfl, nil_out, int_out 41⟩)
theorem enters : Enters Try.prog 105 := enters_of (fn := Try.f105) (by kernel_rfl) (by kernel_rfl) (by kernel_rfl)
theorem okR : Enters Try.prog 105 ∧ Sound Try.prog rho 105 sig := ⟨enters, sound⟩
end Make
end Go.Proofs.Ythbojpaghbbnnaa.Z
namespace Go.Proofs.Ythbojpaghbbnnaa
open Go.RowKit
set_option linter.unusedVariables false
set_option linter.unusedSimpArgs false
theorem take_eq_step {α : Type} {xs ys : List α} {k : Nat} {x y : α} (h : xs.take k = ys.take k) (hx : xs[k]? = some x) (hy : ys[k]? = some y) (e : x = y) : xs.take (k + 1) = ys.take (k + 1) := by
  rw [take_snoc' hx, take_snoc' hy, h, e]
theorem ne_of_get {α : Type} {xs ys : List α} {k : Nat} {x y : α} (hx : xs[k]? = some x) (hy : ys[k]? = some y) (e : x ≠ y) : xs ≠ ys := by
  rintro rfl
  rw [hx] at hy
  injection hy with hy
  exact e hy
theorem eq_of_take {α : Type} {xs ys : List α} {k : Nat} (h : xs.take k = ys.take k) (hx : xs.length ≤ k) (hy : ys.length ≤ k) : xs = ys := by
  rwa [List.take_of_length_le hx, List.take_of_length_le hy] at h
/-- A row of structs that the call owns. -/
def OwnS {α : Type} (w : World) (base : Nat) (e : TypeId) (enc : α → List Value) (sz : Nat) (v : Value) (xs : List α) : Prop := w.ownsRow base e sz v xs.length (xs.flatMap enc)
set_option maxRecDepth 100000 in
set_option maxHeartbeats 2000000 in
theorem SameInts_any (w : World) {lo hi lo' hi' : Nat} {a b : Value} {xs ys : List Int} (ha : Ints w lo hi a xs) (hb : Ints w lo' hi' b ys) :
    Calls Try.prog 53 #[a, b] w fun e w' => e = .returned (.bool (decide (xs = ys))) ∧ Below w.heap.size w w' := by
  obtain ⟨hl1, A, c, rfl⟩ := ha.form
  obtain ⟨hl2, B, d, rfl⟩ := hb.form
  by_cases hl : xs.length = ys.length
  · have Hl := Lib.hid hl
    have hl3 : xs.length ≤ ys.length := by omega
    have hne : (((xs.length : Nat) : Int) != (ys.length : Int)) = false := by simp [hl]
    clear hl
    go_enter Try.func53, Try.ntmps53
    go_wp2
    go_loopw [5] (fun i wr => ∃ k : Nat, k ≤ xs.length ∧ i = .int .i64 k ∧ Hid (∃ nq, wr = w.drewN nq) ∧ Hid (xs.take k = ys.take k)) (fun i _ => xs.length - (intOf i).toNat)
    case atStart => exact ⟨0, by omega, rfl, ⟨0, rfl⟩, by simp [Hid]⟩
    case round =>
      obtain ⟨k, hk, rfl, HQ, HJ⟩ := hrel
      obtain ⟨nq, rfl⟩ := HQ.out
      clear HQ
      by_cases hlt : k < xs.length
      · obtain ⟨b, off, x, rfl, _, _, g1, X⟩ := ha.get k hlt
        obtain ⟨b', off', y, rfl, _, _, g2, Y⟩ := hb.get k (by omega)
        by_cases he0 : x = y
        · have hq0 : (x == y) = true := by simp [he0]
          have E0 := Lib.hid he0
          clear he0
          have hst := take_eq_step HJ.out X.out Y.out (by rw [E0.out])
          have HJ' := Lib.hid hst
          clear hst X Y
          go_wp2
          go_quiet (fail)
          go_wp2
          go_roundw
          case rel => exact ⟨k + 1, by omega, by go_num, ⟨_, rfl⟩, HJ'⟩
          case measure => simp [intOf]; omega
        · have hq0 : (x == y) = false := by simp [he0]
          have hd : decide (xs = ys) = false := decide_eq_false (ne_of_get X.out Y.out he0)
          have hd' := Lib.hid hd
          clear hd he0 X Y
          go_wp2
          go_quiet (fail)
          go_wp2
          go_ret
          exact ⟨by rw [hd'.out]; rfl, below_drewN (below_drewN (Below.refl _ _) _) _⟩
      · have hd : decide (xs = ys) = true := decide_eq_true (eq_of_take HJ.out (by omega) (by have := Hl.out; omega))
        have hd' := Lib.hid hd
        clear hd
        go_wp2
        go_ret
        exact ⟨by rw [hd'.out]; rfl, below_drewN (Below.refl _ _) _⟩
  · have hne : (((xs.length : Nat) : Int) != (ys.length : Int)) = true := by simp; omega
    have hd : decide (xs = ys) = false := decide_eq_false (by intro h; exact hl (by rw [h]))
    have hd' := Lib.hid hd
    clear hd hl
    go_enter Try.func53, Try.ntmps53
    go_wp2
    go_ret
    exact ⟨by rw [hd'.out]; rfl, Below.refl _ _⟩
set_option maxRecDepth 100000 in
set_option maxHeartbeats 2000000 in
theorem RInts_any (w : World) {lo hi : Nat} {a : Value} {xs : List Int} (ha : Ints w lo hi a xs) (hx : xs.length * 8 ≤ 140737488351232) :
    Calls Try.prog 67 #[a] w fun e w' => Below w.heap.size w w' ∧ ∃ v, e = .returned v ∧ Own1 w' w.heap.size 3 (Value.int .i64) v xs := by
  obtain ⟨hl1, A, c, rfl⟩ := ha.form
  have HX := Lib.hid hx
  clear hx
  go_enter Try.func67, Try.ntmps67
  go_wp2_with (at_make; refine mk_cap (W := w) w.heap.size rfl _ _ 25 3 _ 1 8 rfl Try.underlying25 infoInt (by decide) _ xs.length rfl rfl rfl (by have := HX.out; omega) (Nat.le_refl _) ?_; intro w1 hown hgr; have hb := (Below.refl w.heap.size w).grown hgr (Nat.le_refl _) (by simp); clear hgr)
  go_loopw [3, 4] (fun v i wr => ∃ k : Nat, k ≤ xs.length ∧ i = .int .i64 k ∧ Below w.heap.size w wr ∧ wr.ownsRow w.heap.size 3 1 v k ((xs.take k).map (Value.int .i64))) (fun _ i _ => xs.length - (intOf i).toNat)
  case atStart => exact ⟨0, by omega, rfl, hb, hown⟩
  case round =>
    clear hb hown
    obtain ⟨k, hk, rfl, hb, hown⟩ := hrel
    by_cases hlt : k < xs.length
    · obtain ⟨b, off, x, rfl, _, _, g1, X⟩ := (ha.at_ hb).get k hlt
      go_wp2_with (at_builtin; refine app_one w.heap.size rfl (.tmp 14) (.tmp 19) 25 3 _ 1 8 rfl Try.underlying25 infoInt rfl (by decide) (by decide) _ k _ #[.int .i64 x] rfl rfl rfl (by simp [Value.oneCell']) hown hb.size (by have := HX.out; omega) ?_; intro v1 w1 hown1 hg1 _; have hb1 := below_app hb hown hg1 (Nat.le_refl _); clear hg1)
      go_roundw
      case rel => exact ⟨k + 1, by omega, by go_num, hb1, by rw [take_snoc' X.out, List.map_append]; exact hown1⟩
      case measure => simp [intOf]; omega
    · go_wp2
      go_ret
      obtain rfl : k = xs.length := by omega
      rw [List.take_length] at hown
      exact ⟨hb, _, rfl, hown⟩
end Go.Proofs.Ythbojpaghbbnnaa
namespace Go.Proofs.Ythbojpaghbbnnaa
open Go.RowKit
set_option linter.unusedVariables false
set_option linter.unusedSimpArgs false
theorem OwnS.sl {α : Type} {w : World} {base : Nat} {e : TypeId} {enc : α → List Value} {sz : Nat} {v : Value} {xs : List α} (hz : ∀ x, (enc x).length = sz) (hsz : 0 < sz) (h : OwnS w base e enc sz v xs) : SlS w base w.heap.size enc sz v xs := SlS.own hz hsz h
theorem PG.ptr {w : World} {lo hi : Nat} {g : Value} {G : Gr} (h : PG w lo hi g G) : ∃ b, g = .pointer (some ⟨b, 0, none⟩) := by
  obtain ⟨b, _, _, _, _, e, _⟩ := h.open_
  exact ⟨b, e⟩
def ps6 : List (Int × Int) := [(1, 0), (0, 1), (1, 2), (2, 2), (2, 0), (4, 2)]
def G6 : Gr := Gr.ofPairs 6 ps6
def all6 : List Bool := [true, true, true, true, true, true]
end Go.Proofs.Ythbojpaghbbnnaa
namespace Go.Proofs.Ythbojpaghbbnnaa.Z
open Go Go.RowKit
set_option linter.unusedVariables false
set_option linter.unusedSimpArgs false
section
variable {ρ : Obs} {P : Program} {f : FuncId}
theorem apart1 (v : Value) : Apart 1 (fun _ => v) := fun i j hi hj hne => absurd (show i = j by omega) hne
theorem sound01 {fr : Bool} {r : T} {pre : Bool} {fn : r.den × Unit} (h : pre = true → ∀ w U, (∀ b, U b → b < w.heap.size) → Calls P f #[] w (Res1 ρ U w r fn.1)) : Sound P ρ f ⟨[], [.val r], fun d => match d with | _ => pre, fun d => match d with | _ => fn, fr⟩ := by
  intro d hp w U0 U1 hd0 vs hu hu1 hfr hap ha
  match vs, ha with
  | [], _ =>
    refine (h hp w U1 (fun b hb => (hu1 b hb).1)).mono ?_
    rintro e w' ⟨hb, u, rfl, hr⟩
    exact ⟨[u], hd0, rfl, Ag.of_below hb _, fun _ hi => absurd hi (Nat.not_lt_zero _), fun _ hi => absurd hi (Nat.not_lt_zero _), apart0 _, trivial, hr.tr (tr0' w'), trivial⟩
/-- A copy in new memory, which is the caller's. -/
theorem sound1o {fr : Bool} {t r : T} {e : TypeId} {pre : t.den → Bool} {fn : t.den → List r.den × Unit} (enc : r.den → List Value) (he : ∀ U w x, ICs ρ U w r (enc x) x)
    (h : ∀ x, pre x = true → ∀ w U v, (∀ b, U b → b < w.heap.size) → IRd ρ U w t v x → Calls P f #[v] w fun e' w' => Below w.heap.size w w' ∧ ∃ u, e' = .returned u ∧ w'.ownsRow w.heap.size e r.size u (fn x).1.length ((fn x).1.flatMap enc)) :
    Sound P ρ f ⟨[.val t], [.own e r], fun d => match d with | (x, _) => pre x, fun d => match d with | (x, _) => fn x, fr⟩ := by
  intro d hp w U0 U1 hd0 vs hu hu1 hfr hap ha
  obtain ⟨x, _⟩ := d
  match vs, ha with
  | [v], ⟨h1, _⟩ =>
    refine (h x hp w U0 v (fun b hb => (hu b hb).1) (h1.tr (tr0 w))).mono ?_
    rintro e' w' ⟨hb, u, rfl, hr⟩
    exact ⟨[u], fun _ => u, rfl, Ag.of_below hb _, fun i hi => absurd hi (Nat.not_lt_zero i), fun i hi => absurd hi (Nat.not_lt_zero i), apart1 u, trivial, rfl, ⟨_, hr, flat_els (fun x => he _ _ x) _⟩, trivial⟩
end
namespace SameIntsH
abbrev ps : List PM := [.val (.list I64), .val (.list I64)]
abbrev rs : List PM := [.val .bool]
noncomputable def pre (a : List Int) (b : List Int) : Bool := true
noncomputable def fn (a : List Int) (b : List Int) : Bool × Unit := (decide (a = b), ())
noncomputable def sig : Sig := ⟨ps, rs, fun d => match d with
  | (a, b, _) => pre a b, fun d => match d with
  | (a, b, _) => fn a b, false⟩
theorem sound : Sound Try.prog rho 53 sig := sound21 (fun (a : List Int) (b : List Int) hp w U U' v0 v1 hU h0 h1 => by
  refine (SameInts_any w (ints_in h0) (ints_in h1)).mono ?_
  rintro e w' ⟨rfl, hb⟩
  exact ⟨hb, _, rfl, bool_out _⟩)
theorem enters : Enters Try.prog 53 := enters_of (fn := Try.f53) (by kernel_rfl) (by kernel_rfl) (by kernel_rfl)
theorem okR : Enters Try.prog 53 ∧ Sound Try.prog rho 53 sig := ⟨enters, sound⟩
end SameIntsH
namespace IntsO
abbrev ps : List PM := [.val (.list I64)]
abbrev rs : List PM := [.own 3 I64]
noncomputable def pre (a : List Int) : Bool := decide (a.length * 8 ≤ 140737488351232)
noncomputable def fn (a : List Int) : (List Int) × Unit := (a, ())
noncomputable def sig : Sig := ⟨ps, rs, fun d => match d with
  | (a, _) => pre a, fun d => match d with
  | (a, _) => fn a, false⟩
theorem sound : Sound Try.prog rho 67 sig := sound1o (fun x : Int => [Value.int .i64 x]) (fun _ _ _ => rfl) (fun a hp w U v hU h0 => by
  refine (RInts_any w (ints_in h0) (of_decide_eq_true hp)).mono ?_
  rintro e w' ⟨hb, u, rfl, hu⟩
  refine ⟨hb, u, rfl, ?_⟩
  rw [flat_one]
  exact hu)
theorem enters : Enters Try.prog 67 := enters_of (fn := Try.f67) (by kernel_rfl) (by kernel_rfl) (by kernel_rfl)
theorem okR : Enters Try.prog 67 ∧ Sound Try.prog rho 67 sig := ⟨enters, sound⟩
end IntsO
end Go.Proofs.Ythbojpaghbbnnaa.Z
namespace Go.Proofs.Ythbojpaghbbnnaa.Z
open Go Go.RowKit
set_option linter.unusedVariables false
set_option linter.unusedSimpArgs false
namespace in5
abbrev ps : List PM := [.val I64, .val I64]
abbrev rs : List PM := [.val .bool]
noncomputable abbrev code : Code := (Go.Proofs.Try.f120.body.getD .skip)
noncomputable def env : Env := mkEnv tab [] 0 [] []
abbrev D : Type := (Bool × Unit)
noncomputable def run' (v0 : Int) (n1 : Int) : Option D := (if Decidable.decide (v0 ≥ (0 : Int)) = Bool.true then some (Decidable.decide (v0 < n1), ())
 else some (Bool.false, ()))
noncomputable def run (d : Ds (List.map PM.ty ps)) : Option (Ds (muts ps ++ List.map PM.ty rs)) := match d with
  | (v0, n1, _) => run' v0 n1
theorem run_is : ∀ d, runF env 12 code [4] ps rs d = run d := fun d => by kernel_rfl
theorem loops : LoopsOk env code := loopsOk_of (l := []) (by kernel_rfl) (fun p hp => by
  cases hp)
noncomputable def pre (v0 : Int) (n1 : Int) : Bool := (run' v0 n1).isSome
noncomputable def fn (v0 : Int) (n1 : Int) : D := match run' v0 n1 with
  | some x => x
  | none => default
noncomputable def sig : Sig := ⟨ps, rs, fun d => match d with
  | (v0, n1, _) => pre v0 n1, fun d => match d with
  | (v0, n1, _) => fn v0 n1, false⟩
theorem run_fn (v0 : Int) (n1 : Int) (h : pre v0 n1 = true) : run' v0 n1 = some (fn v0 n1) := by
  unfold pre at h
  unfold fn
  cases e : run' v0 n1 with
  | some x => rfl
  | none => rw [e] at h; cases h
theorem is_fn (v0 : Int) (n1 : Int) {x : D} (h : run' v0 n1 = some x) : pre v0 n1 = true ∧ fn v0 n1 = x := by
  unfold pre fn
  rw [h]
  exact ⟨rfl, rfl⟩
theorem sound {ρ : Obs} (hE : EnvOk Go.Proofs.Try.prog ρ env) : Sound Go.Proofs.Try.prog ρ 120 sig := sound_of (fn := Go.Proofs.Try.f120) (c := code) (res := [4]) hE (by kernel_rfl) (by kernel_rfl) (by kernel_rfl) (by kernel_rfl) (by kernel_rfl) loops rfl (show 2 ≤ 12 by decide) (fun d hd => (run_is d).trans (by
  obtain ⟨v0, n1, _⟩ := d
  exact run_fn v0 n1 hd))
theorem enters : Enters Go.Proofs.Try.prog 120 := enters_of (fn := Go.Proofs.Try.f120) (by kernel_rfl) (by kernel_rfl) (by kernel_rfl)
theorem ok {ρ : Obs} (h : ∀ p ∈ ([] : List (FuncId × Sig)), Enters Go.Proofs.Try.prog p.1 ∧ Sound Go.Proofs.Try.prog ρ p.1 p.2) : Enters Go.Proofs.Try.prog 120 ∧ Sound Go.Proofs.Try.prog ρ 120 sig := ⟨enters, sound (envOk_of tabOk h)⟩
theorem okR : Enters Go.Proofs.Try.prog 120 ∧ Sound Go.Proofs.Try.prog rho 120 sig := ok (fun p hp => by
  cases hp)
end in5
namespace at5
abbrev ps : List PM := [.val (.list I64), .val I64]
abbrev rs : List PM := [.val I64]
noncomputable abbrev code : Code := (Go.Proofs.Try.f145.body.getD .skip)
abbrev s3 : Shape := ⟨[.v (.list I64), .v I64, .un, .un, .un, .v I64, .v I64, .un, .un, .un, .un, .un, .un, .un, .un, .un, .un, .un, .un, .un, .un, .un, .un, .un, .un, .un, .un], []⟩
abbrev x3 : List Way := [⟨(.ex 0), ⟨[(5, none)]⟩, ⟨[.un, .un, .un, .un, .un, .v I64, .un, .un, .un, .un, .un, .un, .un, .un, .un, .un, .un, .un, .un, .un, .un, .un, .un, .un, .un, .un, .un], []⟩⟩]
abbrev V3 : Type := ((List Int) × Int × Int × Int × Unit) × (Unit)
abbrev X3 : Type := (Int × Unit) × (Unit)
noncomputable def R3 {R : Type} (l0 : (List Int)) (u1 : Int) (lo5 : Int) (hi6 : Int) (k : V3 → Option R) (kx : X3 → Option R) : Option R := (if Decidable.decide (lo5 < hi6) = Bool.true then (if (0 : Int) ≤ IntKind.wrap .i64 (Int.tdiv (IntKind.wrap .i64 (lo5 + hi6)) (2 : Int)) then (if IntKind.wrap .i64 (Int.tdiv (IntKind.wrap .i64 (lo5 + hi6)) (2 : Int)) < (↑(List.length l0) : Int) then (if Decidable.decide (List.getD l0 (Int.toNat (IntKind.wrap .i64 (Int.tdiv (IntKind.wrap .i64 (lo5 + hi6)) (2 : Int)))) (0 : Int) < u1) = Bool.true then k ((l0, u1, IntKind.wrap .i64 (IntKind.wrap .i64 (Int.tdiv (IntKind.wrap .i64 (lo5 + hi6)) (2 : Int)) + (1 : Int)), hi6, ()), (()))
 else k ((l0, u1, lo5, IntKind.wrap .i64 (Int.tdiv (IntKind.wrap .i64 (lo5 + hi6)) (2 : Int)), ()), (())))
 else none)
 else none)
 else kx (((lo5, ()), (()))))
noncomputable def rd3 : Rd (VO s3) (Xs x3) := fun v k kx => match v with
  | ((l0, u1, lo5, hi6, _), _) => R3 l0 u1 lo5 hi6 k kx
noncomputable def F3 (l0 : (List Int)) (u1 : Int) (lo5 : Int) (hi6 : Int) : Option X3 := finOf rd3 ((l0, u1, lo5, hi6, ()), (()))
theorem F3_inv {l0 : (List Int)} {u1 : Int} (I : Int → Int → Prop) (μ : Int → Int → Nat) (Q : X3 → Prop) (h : ∀ (lo5 : Int) (hi6 : Int), I lo5 hi6 → Led (fun (R : Type) (k : V3 → Option R) (kx : X3 → Option R) => R3 l0 u1 lo5 hi6 k kx) (fun v => ∃ (lo5' : Int) (hi6' : Int), v = ((l0, u1, lo5', hi6', ()), ()) ∧ I lo5' hi6' ∧ μ lo5' hi6' < μ lo5 hi6) Q) : ∀ (lo5 : Int) (hi6 : Int), I lo5 hi6 → ∃ z, F3 l0 u1 lo5 hi6 = some z ∧ Q z := fun lo5 hi6 hi => by
  refine finOf_inv (V := V3) (X := X3) (rd := rd3) (fun v => ∃ (lo5' : Int) (hi6' : Int), v = ((l0, u1, lo5', hi6', ()), ()) ∧ I lo5' hi6') (fun v => match v with
    | ((l0, u1, lo5, hi6, _), _) => μ lo5 hi6) Q (fun v hv => ?_) ((l0, u1, lo5, hi6, ()), ()) ⟨lo5, hi6, rfl, hi⟩
  obtain ⟨lo5, hi6, rfl, hi⟩ := hv
  refine led_mono (h lo5 hi6 hi) ?_ (fun _ q => q)
  rintro v ⟨lo5', hi6', rfl, h1, h2⟩
  exact ⟨⟨lo5', hi6', rfl, h1⟩, h2⟩
noncomputable def L3 : Lp := ⟨3, ⟨[(0, none), (1, none), (5, none), (6, none)]⟩, s3, x3, fun v => match v with
  | ((l0, u1, lo5, hi6, _), _) => F3 l0 u1 lo5 hi6⟩
theorem ends3 : Ends L3 rd3 := ends_fin (fun v => by
  obtain ⟨⟨l0, u1, lo5, hi6, _⟩, ⟨_⟩⟩ := v
  rfl)
noncomputable def env : Env := mkEnv tab [] 0 [] [L3]
theorem round3 : RoundIs env (sub [true, true, true, false, false, false] code) L3 rd3 := fun R v k kx => by kernel_rfl
abbrev D : Type := (Int × Unit)
noncomputable def run' (l0 : (List Int)) (u1 : Int) : Option D := (match F3 (l0) (u1) ((0 : Int)) ((↑(List.length l0) : Int)) with
  | some (((lo5_1, _), _)) => some (lo5_1, ())
  | none => none)
noncomputable def run (d : Ds (List.map PM.ty ps)) : Option (Ds (muts ps ++ List.map PM.ty rs)) := match d with
  | (l0, u1, _) => run' l0 u1
theorem run_is : ∀ d, runF env 27 code [4] ps rs d = run d := fun d => by kernel_rfl
theorem loops : LoopsOk env code := loopsOk_of (l := [[true, true, true, false, false, false]]) (by kernel_rfl) (fun p hp => by
  simp only [List.mem_cons, List.not_mem_nil, or_false] at hp
  rcases hp with rfl
  · exact loopOk_lp (L := L3) (x := sub [true, true, true, false, false, false] code) (by kernel_rfl) (by simp [L3]) round3 ends3
  )
noncomputable def pre (l0 : (List Int)) (u1 : Int) : Bool := (run' l0 u1).isSome
noncomputable def fn (l0 : (List Int)) (u1 : Int) : D := match run' l0 u1 with
  | some x => x
  | none => default
noncomputable def sig : Sig := ⟨ps, rs, fun d => match d with
  | (l0, u1, _) => pre l0 u1, fun d => match d with
  | (l0, u1, _) => fn l0 u1, false⟩
theorem run_fn (l0 : (List Int)) (u1 : Int) (h : pre l0 u1 = true) : run' l0 u1 = some (fn l0 u1) := by
  unfold pre at h
  unfold fn
  cases e : run' l0 u1 with
  | some x => rfl
  | none => rw [e] at h; cases h
theorem is_fn (l0 : (List Int)) (u1 : Int) {x : D} (h : run' l0 u1 = some x) : pre l0 u1 = true ∧ fn l0 u1 = x := by
  unfold pre fn
  rw [h]
  exact ⟨rfl, rfl⟩
theorem sound {ρ : Obs} (hE : EnvOk Go.Proofs.Try.prog ρ env) : Sound Go.Proofs.Try.prog ρ 145 sig := sound_of (fn := Go.Proofs.Try.f145) (c := code) (res := [4]) hE (by kernel_rfl) (by kernel_rfl) (by kernel_rfl) (by kernel_rfl) (by kernel_rfl) loops rfl (show 2 ≤ 27 by decide) (fun d hd => (run_is d).trans (by
  obtain ⟨l0, u1, _⟩ := d
  exact run_fn l0 u1 hd))
theorem enters : Enters Go.Proofs.Try.prog 145 := enters_of (fn := Go.Proofs.Try.f145) (by kernel_rfl) (by kernel_rfl) (by kernel_rfl)
theorem ok {ρ : Obs} (h : ∀ p ∈ ([] : List (FuncId × Sig)), Enters Go.Proofs.Try.prog p.1 ∧ Sound Go.Proofs.Try.prog ρ p.1 p.2) : Enters Go.Proofs.Try.prog 145 ∧ Sound Go.Proofs.Try.prog ρ 145 sig := ⟨enters, sound (envOk_of tabOk h)⟩
theorem okR : Enters Go.Proofs.Try.prog 145 ∧ Sound Go.Proofs.Try.prog rho 145 sig := ok (fun p hp => by
  cases hp)
end at5
namespace with5
abbrev ps : List PM := [.val (.list I64), .val I64]
abbrev rs : List PM := [.val (.list I64)]
noncomputable abbrev code : Code := (Go.Proofs.Try.f147.body.getD .skip)
noncomputable def env : Env := mkEnv tab [(145, at5.sig)] 0 [] []
abbrev D : Type := ((List Int) × Unit)
noncomputable def run' (l0 : (List Int)) (u1 : Int) : Option D := (if at5.pre l0 u1 = Bool.true then (if Decidable.decide ((at5.fn l0 u1).1 < (↑(List.length l0) : Int)) = Bool.true then (if (0 : Int) ≤ (at5.fn l0 u1).1 then (if (at5.fn l0 u1).1 < (↑(List.length l0) : Int) then (if (List.getD l0 (Int.toNat (at5.fn l0 u1).1) (0 : Int) == u1) = Bool.true then some (l0, ())
 else (if (0 : Int) ≤ IntKind.wrap .i64 ((↑(List.length l0) : Int) + (1 : Int)) then (if Int.toNat (IntKind.wrap .i64 ((↑(List.length l0) : Int) + (1 : Int))) * (8 : Nat) ≤ (140737488355328 : Nat) then (if (0 : Int) ≤ (at5.fn l0 u1).1 then (if (at5.fn l0 u1).1 ≤ (↑(List.length l0) : Int) then (if ((0 : Nat) + List.length (List.take (Int.toNat (at5.fn l0 u1).1) l0)) * (8 : Nat) ≤ (140737488355328 : Nat) then (if (List.length ([] ++ List.take (Int.toNat (at5.fn l0 u1).1) l0) + List.length [u1]) * (8 : Nat) ≤ (140737488355328 : Nat) then (if (0 : Int) ≤ (at5.fn l0 u1).1 then (if (at5.fn l0 u1).1 ≤ (↑(List.length l0) : Int) then (if (List.length ([] ++ List.take (Int.toNat (at5.fn l0 u1).1) l0 ++ [u1]) + List.length (List.drop (Int.toNat (at5.fn l0 u1).1) l0)) * (8 : Nat) ≤ (140737488355328 : Nat) then some ([] ++ List.take (Int.toNat (at5.fn l0 u1).1) l0 ++ [u1] ++ List.drop (Int.toNat (at5.fn l0 u1).1) l0, ())
 else none)
 else none)
 else none)
 else none)
 else none)
 else none)
 else none)
 else none)
 else none))
 else none)
 else none)
 else (if (0 : Int) ≤ IntKind.wrap .i64 ((↑(List.length l0) : Int) + (1 : Int)) then (if Int.toNat (IntKind.wrap .i64 ((↑(List.length l0) : Int) + (1 : Int))) * (8 : Nat) ≤ (140737488355328 : Nat) then (if (0 : Int) ≤ (at5.fn l0 u1).1 then (if (at5.fn l0 u1).1 ≤ (↑(List.length l0) : Int) then (if ((0 : Nat) + List.length (List.take (Int.toNat (at5.fn l0 u1).1) l0)) * (8 : Nat) ≤ (140737488355328 : Nat) then (if (List.length ([] ++ List.take (Int.toNat (at5.fn l0 u1).1) l0) + List.length [u1]) * (8 : Nat) ≤ (140737488355328 : Nat) then (if (0 : Int) ≤ (at5.fn l0 u1).1 then (if (at5.fn l0 u1).1 ≤ (↑(List.length l0) : Int) then (if (List.length ([] ++ List.take (Int.toNat (at5.fn l0 u1).1) l0 ++ [u1]) + List.length (List.drop (Int.toNat (at5.fn l0 u1).1) l0)) * (8 : Nat) ≤ (140737488355328 : Nat) then some ([] ++ List.take (Int.toNat (at5.fn l0 u1).1) l0 ++ [u1] ++ List.drop (Int.toNat (at5.fn l0 u1).1) l0, ())
 else none)
 else none)
 else none)
 else none)
 else none)
 else none)
 else none)
 else none)
 else none))
 else none)
noncomputable def run (d : Ds (List.map PM.ty ps)) : Option (Ds (muts ps ++ List.map PM.ty rs)) := match d with
  | (l0, u1, _) => run' l0 u1
theorem run_is : ∀ d, runF env 41 code [4] ps rs d = run d := fun d => by kernel_rfl
theorem loops : LoopsOk env code := loopsOk_of (l := []) (by kernel_rfl) (fun p hp => by
  cases hp)
noncomputable def pre (l0 : (List Int)) (u1 : Int) : Bool := (run' l0 u1).isSome
noncomputable def fn (l0 : (List Int)) (u1 : Int) : D := match run' l0 u1 with
  | some x => x
  | none => default
noncomputable def sig : Sig := ⟨ps, rs, fun d => match d with
  | (l0, u1, _) => pre l0 u1, fun d => match d with
  | (l0, u1, _) => fn l0 u1, false⟩
theorem run_fn (l0 : (List Int)) (u1 : Int) (h : pre l0 u1 = true) : run' l0 u1 = some (fn l0 u1) := by
  unfold pre at h
  unfold fn
  cases e : run' l0 u1 with
  | some x => rfl
  | none => rw [e] at h; cases h
theorem is_fn (l0 : (List Int)) (u1 : Int) {x : D} (h : run' l0 u1 = some x) : pre l0 u1 = true ∧ fn l0 u1 = x := by
  unfold pre fn
  rw [h]
  exact ⟨rfl, rfl⟩
theorem sound {ρ : Obs} (hE : EnvOk Go.Proofs.Try.prog ρ env) : Sound Go.Proofs.Try.prog ρ 147 sig := sound_of (fn := Go.Proofs.Try.f147) (c := code) (res := [4]) hE (by kernel_rfl) (by kernel_rfl) (by kernel_rfl) (by kernel_rfl) (by kernel_rfl) loops rfl (show 2 ≤ 41 by decide) (fun d hd => (run_is d).trans (by
  obtain ⟨l0, u1, _⟩ := d
  exact run_fn l0 u1 hd))
theorem enters : Enters Go.Proofs.Try.prog 147 := enters_of (fn := Go.Proofs.Try.f147) (by kernel_rfl) (by kernel_rfl) (by kernel_rfl)
theorem ok {ρ : Obs} (h : ∀ p ∈ ([(145, at5.sig)] : List (FuncId × Sig)), Enters Go.Proofs.Try.prog p.1 ∧ Sound Go.Proofs.Try.prog ρ p.1 p.2) : Enters Go.Proofs.Try.prog 147 ∧ Sound Go.Proofs.Try.prog ρ 147 sig := ⟨enters, sound (envOk_of tabOk h)⟩
theorem okR : Enters Go.Proofs.Try.prog 147 ∧ Sound Go.Proofs.Try.prog rho 147 sig := ok (fun p hp => by
  simp only [List.mem_cons, List.not_mem_nil, or_false] at hp
  rcases hp with rfl
  · exact at5.okR)
end with5
namespace joins5
abbrev ps : List PM := [.bx 126 [.r 25 (.list I64) false], .val I64, .val I64]
abbrev rs : List PM := []
noncomputable abbrev code : Code := (Go.Proofs.Try.f123.body.getD .skip)
noncomputable def env : Env := mkEnv tab [(147, with5.sig)] 2 [(1, [0, 1, 2, 3, 4, 5, 6, 7, 8, 9, 10, 11, 12, 13, 14, 15]), (2, [0, 1, 2, 3, 4, 5, 6, 7, 8, 9, 10, 11, 12, 13, 14, 15])] []
abbrev D : Type := (((List (List Int)) × Bool) × Unit)
noncomputable def run' (g0_0 : (List (List Int))) (u1 : Int) (v2 : Int) : Option D := (if (u1 != v2) = Bool.true then (if (0 : Int) ≤ u1 then (if u1 < (↑(List.length g0_0) : Int) then (if with5.pre (List.getD g0_0 (Int.toNat u1) []) v2 = Bool.true then (if (0 : Int) ≤ u1 then (if u1 < (↑(List.length g0_0) : Int) then (if Int.toNat u1 < List.length g0_0 then (if (0 : Int) ≤ v2 then (if v2 < (↑(List.length (List.set g0_0 (Int.toNat u1) (with5.fn (List.getD g0_0 (Int.toNat u1) []) v2).1)) : Int) then (if with5.pre (List.getD (List.set g0_0 (Int.toNat u1) (with5.fn (List.getD g0_0 (Int.toNat u1) []) v2).1) (Int.toNat v2) []) u1 = Bool.true then (if (0 : Int) ≤ v2 then (if v2 < (↑(List.length (List.set g0_0 (Int.toNat u1) (with5.fn (List.getD g0_0 (Int.toNat u1) []) v2).1)) : Int) then (if Int.toNat v2 < List.length (List.set g0_0 (Int.toNat u1) (with5.fn (List.getD g0_0 (Int.toNat u1) []) v2).1) then some ((List.set (List.set g0_0 (Int.toNat u1) (with5.fn (List.getD g0_0 (Int.toNat u1) []) v2).1) (Int.toNat v2) (with5.fn (List.getD (List.set g0_0 (Int.toNat u1) (with5.fn (List.getD g0_0 (Int.toNat u1) []) v2).1) (Int.toNat v2) []) u1).1, Bool.false), ())
 else none)
 else none)
 else none)
 else none)
 else none)
 else none)
 else none)
 else none)
 else none)
 else none)
 else none)
 else none)
 else some ((g0_0, Bool.false), ()))
noncomputable def run (d : Ds (List.map PM.ty ps)) : Option (Ds (muts ps ++ List.map PM.ty rs)) := match d with
  | ((g0_0, _), u1, v2, _) => run' g0_0 u1 v2
theorem run_is : ∀ d, runF env 39 code [] ps rs d = run d := fun d => by kernel_rfl
theorem loops : LoopsOk env code := loopsOk_of (l := []) (by kernel_rfl) (fun p hp => by
  cases hp)
noncomputable def pre (g0_0 : (List (List Int))) (u1 : Int) (v2 : Int) : Bool := (run' g0_0 u1 v2).isSome
noncomputable def fn (g0_0 : (List (List Int))) (u1 : Int) (v2 : Int) : D := match run' g0_0 u1 v2 with
  | some x => x
  | none => default
noncomputable def sig : Sig := ⟨ps, rs, fun d => match d with
  | ((g0_0, _), u1, v2, _) => pre g0_0 u1 v2, fun d => match d with
  | ((g0_0, _), u1, v2, _) => fn g0_0 u1 v2, false⟩
theorem run_fn (g0_0 : (List (List Int))) (u1 : Int) (v2 : Int) (h : pre g0_0 u1 v2 = true) : run' g0_0 u1 v2 = some (fn g0_0 u1 v2) := by
  unfold pre at h
  unfold fn
  cases e : run' g0_0 u1 v2 with
  | some x => rfl
  | none => rw [e] at h; cases h
theorem is_fn (g0_0 : (List (List Int))) (u1 : Int) (v2 : Int) {x : D} (h : run' g0_0 u1 v2 = some x) : pre g0_0 u1 v2 = true ∧ fn g0_0 u1 v2 = x := by
  unfold pre fn
  rw [h]
  exact ⟨rfl, rfl⟩
theorem sound {ρ : Obs} (hE : EnvOk Go.Proofs.Try.prog ρ env) : Sound Go.Proofs.Try.prog ρ 123 sig := sound_of (fn := Go.Proofs.Try.f123) (c := code) (res := []) hE (by kernel_rfl) (by kernel_rfl) (by kernel_rfl) (by kernel_rfl) (by kernel_rfl) loops rfl (show 3 ≤ 39 by decide) (fun d hd => (run_is d).trans (by
  obtain ⟨⟨g0_0, _⟩, u1, v2, _⟩ := d
  exact run_fn g0_0 u1 v2 hd))
theorem enters : Enters Go.Proofs.Try.prog 123 := enters_of (fn := Go.Proofs.Try.f123) (by kernel_rfl) (by kernel_rfl) (by kernel_rfl)
theorem ok {ρ : Obs} (h : ∀ p ∈ ([(147, with5.sig)] : List (FuncId × Sig)), Enters Go.Proofs.Try.prog p.1 ∧ Sound Go.Proofs.Try.prog ρ p.1 p.2) : Enters Go.Proofs.Try.prog 123 ∧ Sound Go.Proofs.Try.prog ρ 123 sig := ⟨enters, sound (envOk_of tabOk h)⟩
theorem okR : Enters Go.Proofs.Try.prog 123 ∧ Sound Go.Proofs.Try.prog rho 123 sig := ok (fun p hp => by
  simp only [List.mem_cons, List.not_mem_nil, or_false] at hp
  rcases hp with rfl
  · exact with5.okR)
end joins5
namespace Make5
abbrev ps : List PM := [.val I64, .val (.list Pr)]
abbrev rs : List PM := [.val (.ptr Rf), .val I64]
noncomputable abbrev code : Code := (Go.Proofs.Try.f112.body.getD .skip)
abbrev s4 : Shape := ⟨[.v I64, .v (.list (.pair I64 I64)), .un, .un, .un, .un, .v I64, .un, .un, .un, .un, .un, .un, .un, .un, .un, .un, .un, .un, .un, .un, .un, .un, .un, .un, .un, .un, .un, .un, .un, .un, .un, .un, .un, .un, .un, .un, .un, .un, .un, .un, .un, .un, .un, .un, .un, .un, .un, .un, .un, .un, .un, .un, .un, .un, .un, .un, .un, .un, .un, .un, .un, .un, .un, .un, .un], []⟩
abbrev x4 : List Way := [⟨.rt, ⟨[(4, none), (5, none)]⟩, ⟨[.un, .un, .un, .un, .nlp, .v I64, .un, .un, .un, .un, .un, .un, .un, .un, .un, .un, .un, .un, .un, .un, .un, .un, .un, .un, .un, .un, .un, .un, .un, .un, .un, .un, .un, .un, .un, .un, .un, .un, .un, .un, .un, .un, .un, .un, .un, .un, .un, .un, .un, .un, .un, .un, .un, .un, .un, .un, .un, .un, .un, .un, .un, .un, .un, .un, .un, .un], []⟩⟩, ⟨(.ex 0), ⟨[(0, none), (1, none)]⟩, ⟨[.v I64, .v (.list (.pair I64 I64)), .un, .un, .un, .un, .un, .un, .un, .un, .un, .un, .un, .un, .un, .un, .un, .un, .un, .un, .un, .un, .un, .un, .un, .un, .un, .un, .un, .un, .un, .un, .un, .un, .un, .un, .un, .un, .un, .un, .un, .un, .un, .un, .un, .un, .un, .un, .un, .un, .un, .un, .un, .un, .un, .un, .un, .un, .un, .un, .un, .un, .un, .un, .un, .un], []⟩⟩]
abbrev V4 : Type := (Int × (List (Int × Int)) × Int × Unit) × (Unit)
abbrev X4 : Type := ((Int × Unit) × (Unit)) ⊕ ((Int × (List (Int × Int)) × Unit) × (Unit))
noncomputable def R4 {R : Type} (n0 : Int) (pairs1 : (List (Int × Int))) (i6 : Int) (k : V4 → Option R) (kx : X4 → Option R) : Option R := (if Decidable.decide (i6 < (↑(List.length pairs1) : Int)) = Bool.true then (if (0 : Int) ≤ i6 then (if i6 < (↑(List.length pairs1) : Int) then (if in5.pre (List.getD pairs1 (Int.toNat i6) ((0 : Int), (0 : Int))).1 n0 = Bool.true then (if (0 : Int) ≤ i6 then (if i6 < (↑(List.length pairs1) : Int) then (if in5.pre (List.getD pairs1 (Int.toNat i6) ((0 : Int), (0 : Int))).2 n0 = Bool.true then (if (!(in5.fn (List.getD pairs1 (Int.toNat i6) ((0 : Int), (0 : Int))).1 n0).1) = Bool.false then (if (!(in5.fn (List.getD pairs1 (Int.toNat i6) ((0 : Int), (0 : Int))).2 n0).1) = Bool.true then kx (Sum.inl <| (((42 : Int), ()), (())))
 else k ((n0, pairs1, IntKind.wrap .i64 (i6 + (1 : Int)), ()), (())))
 else kx (Sum.inl <| (((42 : Int), ()), (()))))
 else none)
 else none)
 else none)
 else none)
 else none)
 else none)
 else kx (Sum.inr <| ((n0, pairs1, ()), (()))))
noncomputable def rd4 : Rd (VO s4) (Xs x4) := fun v k kx => match v with
  | ((n0, pairs1, i6, _), _) => R4 n0 pairs1 i6 k kx
noncomputable def F4 (n0 : Int) (pairs1 : (List (Int × Int))) (i6 : Int) : Option X4 := finOf rd4 ((n0, pairs1, i6, ()), (()))
theorem F4_inv {n0 : Int} {pairs1 : (List (Int × Int))} (I : Int → Prop) (μ : Int → Nat) (Q : X4 → Prop) (h : ∀ (i6 : Int), I i6 → Led (fun (R : Type) (k : V4 → Option R) (kx : X4 → Option R) => R4 n0 pairs1 i6 k kx) (fun v => ∃ (i6' : Int), v = ((n0, pairs1, i6', ()), ()) ∧ I i6' ∧ μ i6' < μ i6) Q) : ∀ (i6 : Int), I i6 → ∃ z, F4 n0 pairs1 i6 = some z ∧ Q z := fun i6 hi => by
  refine finOf_inv (V := V4) (X := X4) (rd := rd4) (fun v => ∃ (i6' : Int), v = ((n0, pairs1, i6', ()), ()) ∧ I i6') (fun v => match v with
    | ((n0, pairs1, i6, _), _) => μ i6) Q (fun v hv => ?_) ((n0, pairs1, i6, ()), ()) ⟨i6, rfl, hi⟩
  obtain ⟨i6, rfl, hi⟩ := hv
  refine led_mono (h i6 hi) ?_ (fun _ q => q)
  rintro v ⟨i6', rfl, h1, h2⟩
  exact ⟨⟨i6', rfl, h1⟩, h2⟩
noncomputable def L4 : Lp := ⟨4, ⟨[(0, none), (1, none), (6, none)]⟩, s4, x4, fun v => match v with
  | ((n0, pairs1, i6, _), _) => F4 n0 pairs1 i6⟩
theorem ends4 : Ends L4 rd4 := ends_fin (fun v => by
  obtain ⟨⟨n0, pairs1, i6, _⟩, ⟨_⟩⟩ := v
  rfl)
abbrev s12 : Shape := ⟨[.un, .v (.list (.pair I64 I64)), .un, .un, .un, .un, .un, .un, .un, .box 0 0, .v I64, .un, .un, .un, .un, .un, .un, .un, .un, .un, .un, .un, .un, .un, .un, .un, .un, .un, .un, .un, .un, .un, .un, .un, .un, .un, .un, .un, .un, .un, .un, .un, .un, .un, .un, .un, .un, .un, .un, .un, .un, .un, .un, .un, .un, .un, .un, .un, .un, .un, .un, .un, .un, .un, .un, .un], [.cells (126 : Go.TypeId) [.row 1], .row (25 : Go.TypeId) (.list I64)]⟩
abbrev x12 : List Way := [⟨(.ex 2), ⟨[(9, none)]⟩, ⟨[.un, .un, .un, .un, .un, .un, .un, .un, .un, .box 0 0, .un, .un, .un, .un, .un, .un, .un, .un, .un, .un, .un, .un, .un, .un, .un, .un, .un, .un, .un, .un, .un, .un, .un, .un, .un, .un, .un, .un, .un, .un, .un, .un, .un, .un, .un, .un, .un, .un, .un, .un, .un, .un, .un, .un, .un, .un, .un, .un, .un, .un, .un, .un, .un, .un, .un, .un], [.cells (126 : Go.TypeId) [.row 1], .row (25 : Go.TypeId) (.list I64)]⟩⟩]
abbrev V12 : Type := ((List (Int × Int)) × Int × Unit) × ((Unit) × (List (List Int)) × Unit)
abbrev X12 : Type := (Unit) × ((Unit) × (List (List Int)) × Unit)
noncomputable def R12 {R : Type} (pairs1 : (List (Int × Int))) (i10 : Int) (r1 : List (List Int)) (k : V12 → Option R) (kx : X12 → Option R) : Option R := (if Decidable.decide (i10 < (↑(List.length pairs1) : Int)) = Bool.true then (if (0 : Int) ≤ i10 then (if i10 < (↑(List.length pairs1) : Int) then (if (0 : Int) ≤ i10 then (if i10 < (↑(List.length pairs1) : Int) then (if joins5.pre r1 (List.getD pairs1 (Int.toNat i10) ((0 : Int), (0 : Int))).1 (List.getD pairs1 (Int.toNat i10) ((0 : Int), (0 : Int))).2 = Bool.true then k ((pairs1, IntKind.wrap .i64 (i10 + (1 : Int)), ()), ((()), (joins5.fn r1 (List.getD pairs1 (Int.toNat i10) ((0 : Int), (0 : Int))).1 (List.getD pairs1 (Int.toNat i10) ((0 : Int), (0 : Int))).2).1.1, ()))
 else none)
 else none)
 else none)
 else none)
 else none)
 else kx (((()), ((()), r1, ()))))
noncomputable def rd12 : Rd (VO s12) (Xs x12) := fun v k kx => match v with
  | ((pairs1, i10, _), (_, r1, _)) => R12 pairs1 i10 r1 k kx
noncomputable def F12 (pairs1 : (List (Int × Int))) (i10 : Int) (r1 : List (List Int)) : Option X12 := finOf rd12 ((pairs1, i10, ()), ((()), r1, ()))
theorem F12_inv {pairs1 : (List (Int × Int))} (I : Int → List (List Int) → Prop) (μ : Int → List (List Int) → Nat) (Q : X12 → Prop) (h : ∀ (i10 : Int) (r1 : List (List Int)), I i10 r1 → Led (fun (R : Type) (k : V12 → Option R) (kx : X12 → Option R) => R12 pairs1 i10 r1 k kx) (fun v => ∃ (i10' : Int) (r1' : List (List Int)), v = ((pairs1, i10', ()), ((), r1', ())) ∧ I i10' r1' ∧ μ i10' r1' < μ i10 r1) Q) : ∀ (i10 : Int) (r1 : List (List Int)), I i10 r1 → ∃ z, F12 pairs1 i10 r1 = some z ∧ Q z := fun i10 r1 hi => by
  refine finOf_inv (V := V12) (X := X12) (rd := rd12) (fun v => ∃ (i10' : Int) (r1' : List (List Int)), v = ((pairs1, i10', ()), ((), r1', ())) ∧ I i10' r1') (fun v => match v with
    | ((pairs1, i10, _), (_, r1, _)) => μ i10 r1) Q (fun v hv => ?_) ((pairs1, i10, ()), ((), r1, ())) ⟨i10, r1, rfl, hi⟩
  obtain ⟨i10, r1, rfl, hi⟩ := hv
  refine led_mono (h i10 r1 hi) ?_ (fun _ q => q)
  rintro v ⟨i10', r1', rfl, h1, h2⟩
  exact ⟨⟨i10', r1', rfl, h1⟩, h2⟩
noncomputable def L12 : Lp := ⟨12, ⟨[(1, none), (9, none), (10, none)]⟩, s12, x12, fun v => match v with
  | ((pairs1, i10, _), (_, r1, _)) => F12 pairs1 i10 r1⟩
theorem ends12 : Ends L12 rd12 := ends_fin (fun v => by
  obtain ⟨⟨pairs1, i10, _⟩, ⟨⟨_⟩, r1, _⟩⟩ := v
  rfl)
noncomputable def env : Env := mkEnv tab [(120, in5.sig), (123, joins5.sig)] 0 [(14, [0, 1, 2, 3, 4, 5, 6, 7, 8, 9, 10, 11])] [L4, L12]
theorem round4 : RoundIs env (sub [true, true, false, true, false, false] code) L4 rd4 := fun R v k kx => by kernel_rfl
theorem round12 : RoundIs env (sub [true, true, true, true, false, true, false, false] code) L12 rd12 := fun R v k kx => by kernel_rfl
abbrev D : Type := ((Option (List (List Int))) × Int × Unit)
noncomputable def run' (n0 : Int) (pairs1 : (List (Int × Int))) : Option D := (if Decidable.decide (n0 < (0 : Int)) = Bool.false then (if Decidable.decide (n0 > (16777216 : Int)) = Bool.true then some (Option.none, (41 : Int), ())
 else (match F4 (n0) (pairs1) ((0 : Int)) with
  | some (Sum.inl <| ((t5_1, _), _)) => some (Option.none, t5_1, ())
  | some (Sum.inr <| ((n0_2, pairs1_2, _), _)) => (if n0_2 = n0_2 then (if (0 : Int) ≤ n0_2 then (if Int.toNat n0_2 * (24 : Nat) ≤ (140737488355328 : Nat) then (match F12 (pairs1_2) ((0 : Int)) (List.replicate (Int.toNat n0_2) []) with
  | some ((_, (_, r1_3, _))) => some (Option.some r1_3, (0 : Int), ())
  | none => none)
 else none)
 else none)
 else none)
  | none => none))
 else some (Option.none, (41 : Int), ()))
noncomputable def run (d : Ds (List.map PM.ty ps)) : Option (Ds (muts ps ++ List.map PM.ty rs)) := match d with
  | (n0, pairs1, _) => run' n0 pairs1
theorem run_is : ∀ d, runF env 66 code [4, 5] ps rs d = run d := fun d => by kernel_rfl
theorem loops : LoopsOk env code := loopsOk_of (l := [[true, true, false, true, false, false], [true, true, true, true, false, true, false, false]]) (by kernel_rfl) (fun p hp => by
  simp only [List.mem_cons, List.not_mem_nil, or_false] at hp
  rcases hp with rfl | rfl
  · exact loopOk_lp (L := L4) (x := sub [true, true, false, true, false, false] code) (by kernel_rfl) (by simp [L4]) round4 ends4
  · exact loopOk_lp (L := L12) (x := sub [true, true, true, true, false, true, false, false] code) (by kernel_rfl) (by simp [L12]) round12 ends12
  )
noncomputable def pre (n0 : Int) (pairs1 : (List (Int × Int))) : Bool := (run' n0 pairs1).isSome
noncomputable def fn (n0 : Int) (pairs1 : (List (Int × Int))) : D := match run' n0 pairs1 with
  | some x => x
  | none => default
noncomputable def sig : Sig := ⟨ps, rs, fun d => match d with
  | (n0, pairs1, _) => pre n0 pairs1, fun d => match d with
  | (n0, pairs1, _) => fn n0 pairs1, false⟩
theorem run_fn (n0 : Int) (pairs1 : (List (Int × Int))) (h : pre n0 pairs1 = true) : run' n0 pairs1 = some (fn n0 pairs1) := by
  unfold pre at h
  unfold fn
  cases e : run' n0 pairs1 with
  | some x => rfl
  | none => rw [e] at h; cases h
theorem is_fn (n0 : Int) (pairs1 : (List (Int × Int))) {x : D} (h : run' n0 pairs1 = some x) : pre n0 pairs1 = true ∧ fn n0 pairs1 = x := by
  unfold pre fn
  rw [h]
  exact ⟨rfl, rfl⟩
theorem sound {ρ : Obs} (hE : EnvOk Go.Proofs.Try.prog ρ env) : Sound Go.Proofs.Try.prog ρ 112 sig := sound_of (fn := Go.Proofs.Try.f112) (c := code) (res := [4, 5]) hE (by kernel_rfl) (by kernel_rfl) (by kernel_rfl) (by kernel_rfl) (by kernel_rfl) loops rfl (show 2 ≤ 66 by decide) (fun d hd => (run_is d).trans (by
  obtain ⟨n0, pairs1, _⟩ := d
  exact run_fn n0 pairs1 hd))
theorem enters : Enters Go.Proofs.Try.prog 112 := enters_of (fn := Go.Proofs.Try.f112) (by kernel_rfl) (by kernel_rfl) (by kernel_rfl)
theorem ok {ρ : Obs} (h : ∀ p ∈ ([(120, in5.sig), (123, joins5.sig)] : List (FuncId × Sig)), Enters Go.Proofs.Try.prog p.1 ∧ Sound Go.Proofs.Try.prog ρ p.1 p.2) : Enters Go.Proofs.Try.prog 112 ∧ Sound Go.Proofs.Try.prog ρ 112 sig := ⟨enters, sound (envOk_of tabOk h)⟩
theorem okR : Enters Go.Proofs.Try.prog 112 ∧ Sound Go.Proofs.Try.prog rho 112 sig := ok (fun p hp => by
  simp only [List.mem_cons, List.not_mem_nil, or_false] at hp
  rcases hp with rfl | rfl
  · exact in5.okR
  · exact joins5.okR)
end Make5
namespace N5
abbrev ps : List PM := [.val (.ptr Rf)]
abbrev rs : List PM := [.val I64]
noncomputable abbrev code : Code := (Go.Proofs.Try.f114.body.getD .skip)
noncomputable def env : Env := mkEnv tab [] 0 [] []
abbrev D : Type := (Int × Unit)
noncomputable def run' (g0 : (Option (List (List Int)))) : Option D := (if Option.isSome g0 = Bool.true then some ((↑(List.length (Option.getD g0 [])) : Int), ())
 else none)
noncomputable def run (d : Ds (List.map PM.ty ps)) : Option (Ds (muts ps ++ List.map PM.ty rs)) := match d with
  | (g0, _) => run' g0
theorem run_is : ∀ d, runF env 8 code [2] ps rs d = run d := fun d => by kernel_rfl
theorem loops : LoopsOk env code := loopsOk_of (l := []) (by kernel_rfl) (fun p hp => by
  cases hp)
noncomputable def pre (g0 : (Option (List (List Int)))) : Bool := (run' g0).isSome
noncomputable def fn (g0 : (Option (List (List Int)))) : D := match run' g0 with
  | some x => x
  | none => default
noncomputable def sig : Sig := ⟨ps, rs, fun d => match d with
  | (g0, _) => pre g0, fun d => match d with
  | (g0, _) => fn g0, false⟩
theorem run_fn (g0 : (Option (List (List Int)))) (h : pre g0 = true) : run' g0 = some (fn g0) := by
  unfold pre at h
  unfold fn
  cases e : run' g0 with
  | some x => rfl
  | none => rw [e] at h; cases h
theorem is_fn (g0 : (Option (List (List Int)))) {x : D} (h : run' g0 = some x) : pre g0 = true ∧ fn g0 = x := by
  unfold pre fn
  rw [h]
  exact ⟨rfl, rfl⟩
theorem sound {ρ : Obs} (hE : EnvOk Go.Proofs.Try.prog ρ env) : Sound Go.Proofs.Try.prog ρ 114 sig := sound_of (fn := Go.Proofs.Try.f114) (c := code) (res := [2]) hE (by kernel_rfl) (by kernel_rfl) (by kernel_rfl) (by kernel_rfl) (by kernel_rfl) loops rfl (show 1 ≤ 8 by decide) (fun d hd => (run_is d).trans (by
  obtain ⟨g0, _⟩ := d
  exact run_fn g0 hd))
theorem enters : Enters Go.Proofs.Try.prog 114 := enters_of (fn := Go.Proofs.Try.f114) (by kernel_rfl) (by kernel_rfl) (by kernel_rfl)
theorem ok {ρ : Obs} (h : ∀ p ∈ ([] : List (FuncId × Sig)), Enters Go.Proofs.Try.prog p.1 ∧ Sound Go.Proofs.Try.prog ρ p.1 p.2) : Enters Go.Proofs.Try.prog 114 ∧ Sound Go.Proofs.Try.prog ρ 114 sig := ⟨enters, sound (envOk_of tabOk h)⟩
theorem okR : Enters Go.Proofs.Try.prog 114 ∧ Sound Go.Proofs.Try.prog rho 114 sig := ok (fun p hp => by
  cases hp)
end N5
namespace Nb5
abbrev ps : List PM := [.val (.ptr Rf), .val I64]
abbrev rs : List PM := [.val (.list I64)]
noncomputable abbrev code : Code := (Go.Proofs.Try.f59.body.getD .skip)
noncomputable def env : Env := mkEnv tab [(120, in5.sig), (67, IntsO.sig)] 0 [] []
abbrev D : Type := ((List Int) × Unit)
noncomputable def run' (g0 : (Option (List (List Int)))) (v1 : Int) : Option D := (if Option.isSome g0 = Bool.true then (if in5.pre v1 (↑(List.length (Option.getD g0 [])) : Int) = Bool.true then (if (!(in5.fn v1 (↑(List.length (Option.getD g0 [])) : Int)).1) = Bool.true then some ([], ())
 else (if Option.isSome g0 = Bool.true then (if (0 : Int) ≤ v1 then (if v1 < (↑(List.length (Option.getD g0 [])) : Int) then (if IntsO.pre (List.getD (Option.getD g0 []) (Int.toNat v1) []) = Bool.true then some ((IntsO.fn (List.getD (Option.getD g0 []) (Int.toNat v1) [])).1, ())
 else none)
 else none)
 else none)
 else none))
 else none)
 else none)
noncomputable def run (d : Ds (List.map PM.ty ps)) : Option (Ds (muts ps ++ List.map PM.ty rs)) := match d with
  | (g0, v1, _) => run' g0 v1
theorem run_is : ∀ d, runF env 23 code [4] ps rs d = run d := fun d => by kernel_rfl
theorem loops : LoopsOk env code := loopsOk_of (l := []) (by kernel_rfl) (fun p hp => by
  cases hp)
noncomputable def pre (g0 : (Option (List (List Int)))) (v1 : Int) : Bool := (run' g0 v1).isSome
noncomputable def fn (g0 : (Option (List (List Int)))) (v1 : Int) : D := match run' g0 v1 with
  | some x => x
  | none => default
noncomputable def sig : Sig := ⟨ps, rs, fun d => match d with
  | (g0, v1, _) => pre g0 v1, fun d => match d with
  | (g0, v1, _) => fn g0 v1, false⟩
theorem run_fn (g0 : (Option (List (List Int)))) (v1 : Int) (h : pre g0 v1 = true) : run' g0 v1 = some (fn g0 v1) := by
  unfold pre at h
  unfold fn
  cases e : run' g0 v1 with
  | some x => rfl
  | none => rw [e] at h; cases h
theorem is_fn (g0 : (Option (List (List Int)))) (v1 : Int) {x : D} (h : run' g0 v1 = some x) : pre g0 v1 = true ∧ fn g0 v1 = x := by
  unfold pre fn
  rw [h]
  exact ⟨rfl, rfl⟩
theorem sound {ρ : Obs} (hE : EnvOk Go.Proofs.Try.prog ρ env) : Sound Go.Proofs.Try.prog ρ 59 sig := sound_of (fn := Go.Proofs.Try.f59) (c := code) (res := [4]) hE (by kernel_rfl) (by kernel_rfl) (by kernel_rfl) (by kernel_rfl) (by kernel_rfl) loops rfl (show 2 ≤ 23 by decide) (fun d hd => (run_is d).trans (by
  obtain ⟨g0, v1, _⟩ := d
  exact run_fn g0 v1 hd))
theorem enters : Enters Go.Proofs.Try.prog 59 := enters_of (fn := Go.Proofs.Try.f59) (by kernel_rfl) (by kernel_rfl) (by kernel_rfl)
theorem ok {ρ : Obs} (h : ∀ p ∈ ([(120, in5.sig), (67, IntsO.sig)] : List (FuncId × Sig)), Enters Go.Proofs.Try.prog p.1 ∧ Sound Go.Proofs.Try.prog ρ p.1 p.2) : Enters Go.Proofs.Try.prog 59 ∧ Sound Go.Proofs.Try.prog ρ 59 sig := ⟨enters, sound (envOk_of tabOk h)⟩
theorem okR : Enters Go.Proofs.Try.prog 59 ∧ Sound Go.Proofs.Try.prog rho 59 sig := ok (fun p hp => by
  simp only [List.mem_cons, List.not_mem_nil, or_false] at hp
  rcases hp with rfl | rfl
  · exact in5.okR
  · exact IntsO.okR)
end Nb5
end Go.Proofs.Ythbojpaghbbnnaa.Z
namespace Go.Proofs.Ythbojpaghbbnnaa.Z
open Go Go.RowKit
set_option linter.unusedVariables false
set_option linter.unusedSimpArgs false
namespace all6
abbrev ps : List PM := [.val I64]
abbrev rs : List PM := [.own 4 .bool]
noncomputable abbrev code : Code := (Go.Proofs.Try.f133.body.getD .skip)
abbrev s3 : Shape := ⟨[.v I64, .un, .un, .row 0, .v I64, .un, .un, .un, .un, .un, .un, .un, .un, .un], [.row (4 : Go.TypeId) .bool]⟩
abbrev x3 : List Way := [⟨(.ex 0), ⟨[(3, some (.inl ((4 : Go.TypeId), .bool)))]⟩, ⟨[.un, .un, .un, .row 0, .un, .un, .un, .un, .un, .un, .un, .un, .un, .un], [.row (4 : Go.TypeId) .bool]⟩⟩]
abbrev V3 : Type := (Int × Int × Unit) × ((List Bool) × Unit)
abbrev X3 : Type := (Unit) × ((List Bool) × Unit)
noncomputable def R3 {R : Type} (n0 : Int) (i4 : Int) (r0 : List Bool) (k : V3 → Option R) (kx : X3 → Option R) : Option R := (if Decidable.decide (i4 < n0) = Bool.true then (if (List.length r0 + List.length [Bool.true]) * (1 : Nat) ≤ (140737488355328 : Nat) then k ((n0, IntKind.wrap .i64 (i4 + (1 : Int)), ()), (r0 ++ [Bool.true], ()))
 else none)
 else kx (((()), (r0, ()))))
noncomputable def rd3 : Rd (VO s3) (Xs x3) := fun v k kx => match v with
  | ((n0, i4, _), (r0, _)) => R3 n0 i4 r0 k kx
noncomputable def F3 (n0 : Int) (i4 : Int) (r0 : List Bool) : Option X3 := finOf rd3 ((n0, i4, ()), (r0, ()))
theorem F3_inv {n0 : Int} (I : Int → List Bool → Prop) (μ : Int → List Bool → Nat) (Q : X3 → Prop) (h : ∀ (i4 : Int) (r0 : List Bool), I i4 r0 → Led (fun (R : Type) (k : V3 → Option R) (kx : X3 → Option R) => R3 n0 i4 r0 k kx) (fun v => ∃ (i4' : Int) (r0' : List Bool), v = ((n0, i4', ()), (r0', ())) ∧ I i4' r0' ∧ μ i4' r0' < μ i4 r0) Q) : ∀ (i4 : Int) (r0 : List Bool), I i4 r0 → ∃ z, F3 n0 i4 r0 = some z ∧ Q z := fun i4 r0 hi => by
  refine finOf_inv (V := V3) (X := X3) (rd := rd3) (fun v => ∃ (i4' : Int) (r0' : List Bool), v = ((n0, i4', ()), (r0', ())) ∧ I i4' r0') (fun v => match v with
    | ((n0, i4, _), (r0, _)) => μ i4 r0) Q (fun v hv => ?_) ((n0, i4, ()), (r0, ())) ⟨i4, r0, rfl, hi⟩
  obtain ⟨i4, r0, rfl, hi⟩ := hv
  refine led_mono (h i4 r0 hi) ?_ (fun _ q => q)
  rintro v ⟨i4', r0', rfl, h1, h2⟩
  exact ⟨⟨i4', r0', rfl, h1⟩, h2⟩
noncomputable def L3 : Lp := ⟨3, ⟨[(0, none), (3, some (.inl ((4 : Go.TypeId), .bool))), (4, none)]⟩, s3, x3, fun v => match v with
  | ((n0, i4, _), (r0, _)) => F3 n0 i4 r0⟩
theorem ends3 : Ends L3 rd3 := ends_fin (fun v => by
  obtain ⟨⟨n0, i4, _⟩, ⟨r0, _⟩⟩ := v
  rfl)
noncomputable def env : Env := mkEnv tab6 [] 0 [] [L3]
theorem round3 : RoundIs env (sub [true, true, false, true, false, false] code) L3 rd3 := fun R v k kx => by kernel_rfl
abbrev D : Type := ((List Bool) × Unit)
noncomputable def run' (n0 : Int) : Option D := (match F3 (n0) ((0 : Int)) ([]) with
  | some ((_, (r0_1, _))) => some (r0_1, ())
  | none => none)
noncomputable def run (d : Ds (List.map PM.ty ps)) : Option (Ds (muts ps ++ List.map PM.ty rs)) := match d with
  | (n0, _) => run' n0
theorem run_is : ∀ d, runF env 14 code [2] ps rs d = run d := fun d => by kernel_rfl
theorem loops : LoopsOk env code := loopsOk_of (l := [[true, true, false, true, false, false]]) (by kernel_rfl) (fun p hp => by
  simp only [List.mem_cons, List.not_mem_nil, or_false] at hp
  rcases hp with rfl
  · exact loopOk_lp (L := L3) (x := sub [true, true, false, true, false, false] code) (by kernel_rfl) (by simp [L3]) round3 ends3
  )
noncomputable def pre (n0 : Int) : Bool := (run' n0).isSome
noncomputable def fn (n0 : Int) : D := match run' n0 with
  | some x => x
  | none => default
noncomputable def sig : Sig := ⟨ps, rs, fun d => match d with
  | (n0, _) => pre n0, fun d => match d with
  | (n0, _) => fn n0, false⟩
theorem run_fn (n0 : Int) (h : pre n0 = true) : run' n0 = some (fn n0) := by
  unfold pre at h
  unfold fn
  cases e : run' n0 with
  | some x => rfl
  | none => rw [e] at h; cases h
theorem is_fn (n0 : Int) {x : D} (h : run' n0 = some x) : pre n0 = true ∧ fn n0 = x := by
  unfold pre fn
  rw [h]
  exact ⟨rfl, rfl⟩
theorem sound {ρ : Obs} (hE : EnvOk Go.Proofs.Try.prog ρ env) : Sound Go.Proofs.Try.prog ρ 133 sig := sound_of (fn := Go.Proofs.Try.f133) (c := code) (res := [2]) hE (by kernel_rfl) (by kernel_rfl) (by kernel_rfl) (by kernel_rfl) (by kernel_rfl) loops rfl (show 1 ≤ 14 by decide) (fun d hd => (run_is d).trans (by
  obtain ⟨n0, _⟩ := d
  exact run_fn n0 hd))
theorem enters : Enters Go.Proofs.Try.prog 133 := enters_of (fn := Go.Proofs.Try.f133) (by kernel_rfl) (by kernel_rfl) (by kernel_rfl)
theorem ok {ρ : Obs} (h : ∀ p ∈ ([] : List (FuncId × Sig)), Enters Go.Proofs.Try.prog p.1 ∧ Sound Go.Proofs.Try.prog ρ p.1 p.2) : Enters Go.Proofs.Try.prog 133 ∧ Sound Go.Proofs.Try.prog ρ 133 sig := ⟨enters, sound (envOk_of tab6Ok h)⟩
theorem okR : Enters Go.Proofs.Try.prog 133 ∧ Sound Go.Proofs.Try.prog rho 133 sig := ok (fun p hp => by
  cases hp)
end all6
namespace there6
abbrev ps : List PM := [.val (.ptr Rf), .val (.list .bool), .val I64]
abbrev rs : List PM := [.val I64]
noncomputable abbrev code : Code := (Go.Proofs.Try.f138.body.getD .skip)
abbrev s4 : Shape := ⟨[.un, .v (.list .bool), .un, .un, .un, .un, .un, .v I64, .v (.list I64), .v I64, .un, .un, .un, .un, .un, .un, .un, .un, .un, .un, .un, .un, .un, .un, .un, .un, .un, .un, .un], []⟩
abbrev x4 : List Way := [⟨(.ex 0), ⟨[(7, none)]⟩, ⟨[.un, .un, .un, .un, .un, .un, .un, .v I64, .un, .un, .un, .un, .un, .un, .un, .un, .un, .un, .un, .un, .un, .un, .un, .un, .un, .un, .un, .un, .un], []⟩⟩]
abbrev V4 : Type := ((List Bool) × Int × (List Int) × Int × Unit) × (Unit)
abbrev X4 : Type := (Int × Unit) × (Unit)
noncomputable def R4 {R : Type} (in1 : (List Bool)) (n7 : Int) (l8 : (List Int)) (i9 : Int) (k : V4 → Option R) (kx : X4 → Option R) : Option R := (if Decidable.decide (i9 < (↑(List.length l8) : Int)) = Bool.true then (if (0 : Int) ≤ i9 then (if i9 < (↑(List.length l8) : Int) then (if (0 : Int) ≤ List.getD l8 (Int.toNat i9) (0 : Int) then (if List.getD l8 (Int.toNat i9) (0 : Int) < (↑(List.length in1) : Int) then (if List.getD in1 (Int.toNat (List.getD l8 (Int.toNat i9) (0 : Int))) Bool.false = Bool.true then k ((in1, IntKind.wrap .i64 (n7 + (1 : Int)), l8, IntKind.wrap .i64 (i9 + (1 : Int)), ()), (()))
 else k ((in1, n7, l8, IntKind.wrap .i64 (i9 + (1 : Int)), ()), (())))
 else none)
 else none)
 else none)
 else none)
 else kx (((n7, ()), (()))))
noncomputable def rd4 : Rd (VO s4) (Xs x4) := fun v k kx => match v with
  | ((in1, n7, l8, i9, _), _) => R4 in1 n7 l8 i9 k kx
noncomputable def F4 (in1 : (List Bool)) (n7 : Int) (l8 : (List Int)) (i9 : Int) : Option X4 := finOf rd4 ((in1, n7, l8, i9, ()), (()))
theorem F4_inv {in1 : (List Bool)} {l8 : (List Int)} (I : Int → Int → Prop) (μ : Int → Int → Nat) (Q : X4 → Prop) (h : ∀ (n7 : Int) (i9 : Int), I n7 i9 → Led (fun (R : Type) (k : V4 → Option R) (kx : X4 → Option R) => R4 in1 n7 l8 i9 k kx) (fun v => ∃ (n7' : Int) (i9' : Int), v = ((in1, n7', l8, i9', ()), ()) ∧ I n7' i9' ∧ μ n7' i9' < μ n7 i9) Q) : ∀ (n7 : Int) (i9 : Int), I n7 i9 → ∃ z, F4 in1 n7 l8 i9 = some z ∧ Q z := fun n7 i9 hi => by
  refine finOf_inv (V := V4) (X := X4) (rd := rd4) (fun v => ∃ (n7' : Int) (i9' : Int), v = ((in1, n7', l8, i9', ()), ()) ∧ I n7' i9') (fun v => match v with
    | ((in1, n7, l8, i9, _), _) => μ n7 i9) Q (fun v hv => ?_) ((in1, n7, l8, i9, ()), ()) ⟨n7, i9, rfl, hi⟩
  obtain ⟨n7, i9, rfl, hi⟩ := hv
  refine led_mono (h n7 i9 hi) ?_ (fun _ q => q)
  rintro v ⟨n7', i9', rfl, h1, h2⟩
  exact ⟨⟨n7', i9', rfl, h1⟩, h2⟩
noncomputable def L4 : Lp := ⟨4, ⟨[(1, none), (7, none), (8, none), (9, none)]⟩, s4, x4, fun v => match v with
  | ((in1, n7, l8, i9, _), _) => F4 in1 n7 l8 i9⟩
theorem ends4 : Ends L4 rd4 := ends_fin (fun v => by
  obtain ⟨⟨in1, n7, l8, i9, _⟩, ⟨_⟩⟩ := v
  rfl)
noncomputable def env : Env := mkEnv tab6 [(59, Nb5.sig)] 0 [] [L4]
theorem round4 : RoundIs env (sub [true, true, true, false, true, false, false] code) L4 rd4 := fun R v k kx => by kernel_rfl
abbrev D : Type := (Int × Unit)
noncomputable def run' (g0 : (Option (List (List Int)))) (in1 : (List Bool)) (v2 : Int) : Option D := (if Nb5.pre g0 v2 = Bool.true then (match F4 (in1) ((0 : Int)) ((Nb5.fn g0 v2).1) ((0 : Int)) with
  | some (((n7_1, _), _)) => some (n7_1, ())
  | none => none)
 else none)
noncomputable def run (d : Ds (List.map PM.ty ps)) : Option (Ds (muts ps ++ List.map PM.ty rs)) := match d with
  | (g0, in1, v2, _) => run' g0 in1 v2
theorem run_is : ∀ d, runF env 29 code [6] ps rs d = run d := fun d => by kernel_rfl
theorem loops : LoopsOk env code := loopsOk_of (l := [[true, true, true, false, true, false, false]]) (by kernel_rfl) (fun p hp => by
  simp only [List.mem_cons, List.not_mem_nil, or_false] at hp
  rcases hp with rfl
  · exact loopOk_lp (L := L4) (x := sub [true, true, true, false, true, false, false] code) (by kernel_rfl) (by simp [L4]) round4 ends4
  )
noncomputable def pre (g0 : (Option (List (List Int)))) (in1 : (List Bool)) (v2 : Int) : Bool := (run' g0 in1 v2).isSome
noncomputable def fn (g0 : (Option (List (List Int)))) (in1 : (List Bool)) (v2 : Int) : D := match run' g0 in1 v2 with
  | some x => x
  | none => default
noncomputable def sig : Sig := ⟨ps, rs, fun d => match d with
  | (g0, in1, v2, _) => pre g0 in1 v2, fun d => match d with
  | (g0, in1, v2, _) => fn g0 in1 v2, false⟩
theorem run_fn (g0 : (Option (List (List Int)))) (in1 : (List Bool)) (v2 : Int) (h : pre g0 in1 v2 = true) : run' g0 in1 v2 = some (fn g0 in1 v2) := by
  unfold pre at h
  unfold fn
  cases e : run' g0 in1 v2 with
  | some x => rfl
  | none => rw [e] at h; cases h
theorem is_fn (g0 : (Option (List (List Int)))) (in1 : (List Bool)) (v2 : Int) {x : D} (h : run' g0 in1 v2 = some x) : pre g0 in1 v2 = true ∧ fn g0 in1 v2 = x := by
  unfold pre fn
  rw [h]
  exact ⟨rfl, rfl⟩
theorem sound {ρ : Obs} (hE : EnvOk Go.Proofs.Try.prog ρ env) : Sound Go.Proofs.Try.prog ρ 138 sig := sound_of (fn := Go.Proofs.Try.f138) (c := code) (res := [6]) hE (by kernel_rfl) (by kernel_rfl) (by kernel_rfl) (by kernel_rfl) (by kernel_rfl) loops rfl (show 3 ≤ 29 by decide) (fun d hd => (run_is d).trans (by
  obtain ⟨g0, in1, v2, _⟩ := d
  exact run_fn g0 in1 v2 hd))
theorem enters : Enters Go.Proofs.Try.prog 138 := enters_of (fn := Go.Proofs.Try.f138) (by kernel_rfl) (by kernel_rfl) (by kernel_rfl)
theorem ok {ρ : Obs} (h : ∀ p ∈ ([(59, Nb5.sig)] : List (FuncId × Sig)), Enters Go.Proofs.Try.prog p.1 ∧ Sound Go.Proofs.Try.prog ρ p.1 p.2) : Enters Go.Proofs.Try.prog 138 ∧ Sound Go.Proofs.Try.prog ρ 138 sig := ⟨enters, sound (envOk_of tab6Ok h)⟩
theorem okR : Enters Go.Proofs.Try.prog 138 ∧ Sound Go.Proofs.Try.prog rho 138 sig := ok (fun p hp => by
  simp only [List.mem_cons, List.not_mem_nil, or_false] at hp
  rcases hp with rfl
  · exact Nb5.okR)
end there6
namespace shrunk6
abbrev ps : List PM := [.val (.ptr Rf), .own 4 .bool, .val I64]
abbrev rs : List PM := [.val I64]
noncomputable abbrev code : Code := (Go.Proofs.Try.f134.body.getD .skip)
abbrev s4 : Shape := ⟨[.v (.ptr (.one (.list (.list I64)))), .row 0, .v I64, .un, .un, .un, .un, .v .bool, .v I64, .v I64, .un, .un, .un, .un, .un, .un, .un, .un, .un, .un, .un, .un, .un, .un, .un, .un, .un, .un, .un, .un, .un, .un, .un, .un, .un, .un, .un, .un, .un, .un], [.row (4 : Go.TypeId) .bool]⟩
abbrev x4 : List Way := [⟨(.ex 2), ⟨[(0, none), (1, none), (2, none), (7, none), (8, none)]⟩, ⟨[.v (.ptr (.one (.list (.list I64)))), .row 0, .v I64, .un, .un, .un, .un, .v .bool, .v I64, .un, .un, .un, .un, .un, .un, .un, .un, .un, .un, .un, .un, .un, .un, .un, .un, .un, .un, .un, .un, .un, .un, .un, .un, .un, .un, .un, .un, .un, .un, .un], [.row (4 : Go.TypeId) .bool]⟩⟩]
abbrev V4 : Type := ((Option (List (List Int))) × Int × Bool × Int × Int × Unit) × ((List Bool) × Unit)
abbrev X4 : Type := ((Option (List (List Int))) × Int × Bool × Int × Unit) × ((List Bool) × Unit)
noncomputable def R4 {R : Type} (g0 : (Option (List (List Int)))) (k2 : Int) (went7 : Bool) (left8 : Int) (v9 : Int) (r0 : List Bool) (k : V4 → Option R) (kx : X4 → Option R) : Option R := (if Decidable.decide (v9 < (↑(List.length r0) : Int)) = Bool.true then (if (0 : Int) ≤ v9 then (if v9 < (↑(List.length r0) : Int) then (if List.getD r0 (Int.toNat v9) Bool.false = Bool.true then (if there6.pre g0 r0 v9 = Bool.true then (if Decidable.decide ((there6.fn g0 r0 v9).1 < k2) = Bool.true then (if (0 : Int) ≤ v9 then (if v9 < (↑(List.length r0) : Int) then (if Int.toNat v9 < List.length r0 then (if (0 : Int) ≤ v9 then (if v9 < (↑(List.length (List.set r0 (Int.toNat v9) Bool.false)) : Int) then (if List.getD (List.set r0 (Int.toNat v9) Bool.false) (Int.toNat v9) Bool.false = Bool.true then k ((g0, k2, Bool.true, IntKind.wrap .i64 (left8 + (1 : Int)), IntKind.wrap .i64 (v9 + (1 : Int)), ()), (List.set r0 (Int.toNat v9) Bool.false, ()))
 else k ((g0, k2, Bool.true, left8, IntKind.wrap .i64 (v9 + (1 : Int)), ()), (List.set r0 (Int.toNat v9) Bool.false, ())))
 else none)
 else none)
 else none)
 else none)
 else none)
 else (if (0 : Int) ≤ v9 then (if v9 < (↑(List.length r0) : Int) then (if List.getD r0 (Int.toNat v9) Bool.false = Bool.true then k ((g0, k2, went7, IntKind.wrap .i64 (left8 + (1 : Int)), IntKind.wrap .i64 (v9 + (1 : Int)), ()), (r0, ()))
 else k ((g0, k2, went7, left8, IntKind.wrap .i64 (v9 + (1 : Int)), ()), (r0, ())))
 else none)
 else none))
 else none)
 else (if (0 : Int) ≤ v9 then (if v9 < (↑(List.length r0) : Int) then (if List.getD r0 (Int.toNat v9) Bool.false = Bool.true then k ((g0, k2, went7, IntKind.wrap .i64 (left8 + (1 : Int)), IntKind.wrap .i64 (v9 + (1 : Int)), ()), (r0, ()))
 else k ((g0, k2, went7, left8, IntKind.wrap .i64 (v9 + (1 : Int)), ()), (r0, ())))
 else none)
 else none))
 else none)
 else none)
 else kx (((g0, k2, went7, left8, ()), (r0, ()))))
noncomputable def rd4 : Rd (VO s4) (Xs x4) := fun v k kx => match v with
  | ((g0, k2, went7, left8, v9, _), (r0, _)) => R4 g0 k2 went7 left8 v9 r0 k kx
noncomputable def F4 (g0 : (Option (List (List Int)))) (k2 : Int) (went7 : Bool) (left8 : Int) (v9 : Int) (r0 : List Bool) : Option X4 := finOf rd4 ((g0, k2, went7, left8, v9, ()), (r0, ()))
theorem F4_inv {g0 : (Option (List (List Int)))} {k2 : Int} (I : Bool → Int → Int → List Bool → Prop) (μ : Bool → Int → Int → List Bool → Nat) (Q : X4 → Prop) (h : ∀ (went7 : Bool) (left8 : Int) (v9 : Int) (r0 : List Bool), I went7 left8 v9 r0 → Led (fun (R : Type) (k : V4 → Option R) (kx : X4 → Option R) => R4 g0 k2 went7 left8 v9 r0 k kx) (fun v => ∃ (went7' : Bool) (left8' : Int) (v9' : Int) (r0' : List Bool), v = ((g0, k2, went7', left8', v9', ()), (r0', ())) ∧ I went7' left8' v9' r0' ∧ μ went7' left8' v9' r0' < μ went7 left8 v9 r0) Q) : ∀ (went7 : Bool) (left8 : Int) (v9 : Int) (r0 : List Bool), I went7 left8 v9 r0 → ∃ z, F4 g0 k2 went7 left8 v9 r0 = some z ∧ Q z := fun went7 left8 v9 r0 hi => by
  refine finOf_inv (V := V4) (X := X4) (rd := rd4) (fun v => ∃ (went7' : Bool) (left8' : Int) (v9' : Int) (r0' : List Bool), v = ((g0, k2, went7', left8', v9', ()), (r0', ())) ∧ I went7' left8' v9' r0') (fun v => match v with
    | ((g0, k2, went7, left8, v9, _), (r0, _)) => μ went7 left8 v9 r0) Q (fun v hv => ?_) ((g0, k2, went7, left8, v9, ()), (r0, ())) ⟨went7, left8, v9, r0, rfl, hi⟩
  obtain ⟨went7, left8, v9, r0, rfl, hi⟩ := hv
  refine led_mono (h went7 left8 v9 r0 hi) ?_ (fun _ q => q)
  rintro v ⟨went7', left8', v9', r0', rfl, h1, h2⟩
  exact ⟨⟨went7', left8', v9', r0', rfl, h1⟩, h2⟩
noncomputable def L4 : Lp := ⟨4, ⟨[(0, none), (1, none), (2, none), (7, none), (8, none), (9, none)]⟩, s4, x4, fun v => match v with
  | ((g0, k2, went7, left8, v9, _), (r0, _)) => F4 g0 k2 went7 left8 v9 r0⟩
theorem ends4 : Ends L4 rd4 := ends_fin (fun v => by
  obtain ⟨⟨g0, k2, went7, left8, v9, _⟩, ⟨r0, _⟩⟩ := v
  rfl)
abbrev s1 : Shape := ⟨[.v (.ptr (.one (.list (.list I64)))), .row 0, .v I64, .un, .un, .un, .un, .un, .un, .un, .un, .un, .un, .un, .un, .un, .un, .un, .un, .un, .un, .un, .un, .un, .un, .un, .un, .un, .un, .un, .un, .un, .un, .un, .un, .un, .un, .un, .un, .un], [.row (4 : Go.TypeId) .bool]⟩
abbrev x1 : List Way := [⟨.rt, ⟨[(6, none)]⟩, ⟨[.un, .un, .un, .un, .un, .un, .v I64, .un, .un, .un, .un, .un, .un, .un, .un, .un, .un, .un, .un, .un, .un, .un, .un, .un, .un, .un, .un, .un, .un, .un, .un, .un, .un, .un, .un, .un, .un, .un, .un, .un], [.row (4 : Go.TypeId) .bool]⟩⟩]
abbrev V1 : Type := ((Option (List (List Int))) × Int × Unit) × ((List Bool) × Unit)
abbrev X1 : Type := (Int × Unit) × ((List Bool) × Unit)
noncomputable def R1 {R : Type} (g0 : (Option (List (List Int)))) (k2 : Int) (r0 : List Bool) (k : V1 → Option R) (kx : X1 → Option R) : Option R := (match F4 (g0) (k2) (Bool.false) ((0 : Int)) ((0 : Int)) (r0) with
  | some (((g0_1, k2_1, went7_1, left8_1, _), (r0_1, _))) => (if (!went7_1) = Bool.true then kx (((left8_1, ()), (r0_1, ())))
 else k ((g0_1, k2_1, ()), (r0_1, ())))
  | none => none)
noncomputable def rd1 : Rd (VO s1) (Xs x1) := fun v k kx => match v with
  | ((g0, k2, _), (r0, _)) => R1 g0 k2 r0 k kx
noncomputable def F1 (g0 : (Option (List (List Int)))) (k2 : Int) (r0 : List Bool) : Option X1 := finOf rd1 ((g0, k2, ()), (r0, ()))
theorem F1_inv {g0 : (Option (List (List Int)))} {k2 : Int} (I : List Bool → Prop) (μ : List Bool → Nat) (Q : X1 → Prop) (h : ∀ (r0 : List Bool), I r0 → Led (fun (R : Type) (k : V1 → Option R) (kx : X1 → Option R) => R1 g0 k2 r0 k kx) (fun v => ∃ (r0' : List Bool), v = ((g0, k2, ()), (r0', ())) ∧ I r0' ∧ μ r0' < μ r0) Q) : ∀ (r0 : List Bool), I r0 → ∃ z, F1 g0 k2 r0 = some z ∧ Q z := fun r0 hi => by
  refine finOf_inv (V := V1) (X := X1) (rd := rd1) (fun v => ∃ (r0' : List Bool), v = ((g0, k2, ()), (r0', ())) ∧ I r0') (fun v => match v with
    | ((g0, k2, _), (r0, _)) => μ r0) Q (fun v hv => ?_) ((g0, k2, ()), (r0, ())) ⟨r0, rfl, hi⟩
  obtain ⟨r0, rfl, hi⟩ := hv
  refine led_mono (h r0 hi) ?_ (fun _ q => q)
  rintro v ⟨r0', rfl, h1, h2⟩
  exact ⟨⟨r0', rfl, h1⟩, h2⟩
noncomputable def L1 : Lp := ⟨1, ⟨[(0, none), (1, none), (2, none)]⟩, s1, x1, fun v => match v with
  | ((g0, k2, _), (r0, _)) => F1 g0 k2 r0⟩
theorem ends1 : Ends L1 rd1 := ends_fin (fun v => by
  obtain ⟨⟨g0, k2, _⟩, ⟨r0, _⟩⟩ := v
  rfl)
noncomputable def env : Env := mkEnv tab6 [(138, there6.sig)] 1 [] [L4, L1]
theorem round4 : RoundIs env (sub [true, false, false, false, true, true, false, true, false, false] code) L4 rd4 := fun R v k kx => by kernel_rfl
theorem round1 : RoundIs env (sub [true, false, false] code) L1 rd1 := fun R v k kx => by kernel_rfl
abbrev D : Type := ((List Bool) × Int × Unit)
noncomputable def run' (g0 : (Option (List (List Int)))) (in1 : (List Bool)) (k2 : Int) : Option D := (match F1 (g0) (k2) (in1) with
  | some (((t6_2, _), (r0_2, _))) => some (r0_2, t6_2, ())
  | none => none)
noncomputable def run (d : Ds (List.map PM.ty ps)) : Option (Ds (muts ps ++ List.map PM.ty rs)) := match d with
  | (g0, in1, k2, _) => run' g0 in1 k2
theorem run_is : ∀ d, runF env 40 code [6] ps rs d = run d := fun d => by kernel_rfl
theorem loops : LoopsOk env code := loopsOk_of (l := [[true, false, false], [true, false, false, false, true, true, false, true, false, false]]) (by kernel_rfl) (fun p hp => by
  simp only [List.mem_cons, List.not_mem_nil, or_false] at hp
  rcases hp with rfl | rfl
  · exact loopOk_lp (L := L1) (x := sub [true, false, false] code) (by kernel_rfl) (by simp [L1]) round1 ends1
  · exact loopOk_lp (L := L4) (x := sub [true, false, false, false, true, true, false, true, false, false] code) (by kernel_rfl) (by simp [L4]) round4 ends4
  )
noncomputable def pre (g0 : (Option (List (List Int)))) (in1 : (List Bool)) (k2 : Int) : Bool := (run' g0 in1 k2).isSome
noncomputable def fn (g0 : (Option (List (List Int)))) (in1 : (List Bool)) (k2 : Int) : D := match run' g0 in1 k2 with
  | some x => x
  | none => default
noncomputable def sig : Sig := ⟨ps, rs, fun d => match d with
  | (g0, in1, k2, _) => pre g0 in1 k2, fun d => match d with
  | (g0, in1, k2, _) => fn g0 in1 k2, false⟩
theorem run_fn (g0 : (Option (List (List Int)))) (in1 : (List Bool)) (k2 : Int) (h : pre g0 in1 k2 = true) : run' g0 in1 k2 = some (fn g0 in1 k2) := by
  unfold pre at h
  unfold fn
  cases e : run' g0 in1 k2 with
  | some x => rfl
  | none => rw [e] at h; cases h
theorem is_fn (g0 : (Option (List (List Int)))) (in1 : (List Bool)) (k2 : Int) {x : D} (h : run' g0 in1 k2 = some x) : pre g0 in1 k2 = true ∧ fn g0 in1 k2 = x := by
  unfold pre fn
  rw [h]
  exact ⟨rfl, rfl⟩
theorem sound {ρ : Obs} (hE : EnvOk Go.Proofs.Try.prog ρ env) : Sound Go.Proofs.Try.prog ρ 134 sig := sound_of (fn := Go.Proofs.Try.f134) (c := code) (res := [6]) hE (by kernel_rfl) (by kernel_rfl) (by kernel_rfl) (by kernel_rfl) (by kernel_rfl) loops rfl (show 3 ≤ 40 by decide) (fun d hd => (run_is d).trans (by
  obtain ⟨g0, in1, k2, _⟩ := d
  exact run_fn g0 in1 k2 hd))
theorem enters : Enters Go.Proofs.Try.prog 134 := enters_of (fn := Go.Proofs.Try.f134) (by kernel_rfl) (by kernel_rfl) (by kernel_rfl)
theorem ok {ρ : Obs} (h : ∀ p ∈ ([(138, there6.sig)] : List (FuncId × Sig)), Enters Go.Proofs.Try.prog p.1 ∧ Sound Go.Proofs.Try.prog ρ p.1 p.2) : Enters Go.Proofs.Try.prog 134 ∧ Sound Go.Proofs.Try.prog ρ 134 sig := ⟨enters, sound (envOk_of tab6Ok h)⟩
theorem okR : Enters Go.Proofs.Try.prog 134 ∧ Sound Go.Proofs.Try.prog rho 134 sig := ok (fun p hp => by
  simp only [List.mem_cons, List.not_mem_nil, or_false] at hp
  rcases hp with rfl
  · exact there6.okR)
end shrunk6
namespace Cores6
abbrev ps : List PM := [.val (.ptr Rf)]
abbrev rs : List PM := [.own 3 I64]
noncomputable abbrev code : Code := (Go.Proofs.Try.f83.body.getD .skip)
abbrev s7 : Shape := ⟨[.v (.ptr (.one (.list (.list I64)))), .un, .un, .row 0, .row 1, .v I64, .v I64, .un, .un, .un, .un, .un, .un, .un, .un, .un, .un, .un, .un, .un, .un, .un, .un, .un, .un, .un, .un, .un, .un, .un, .un, .un, .un, .un, .un], [.row (4 : Go.TypeId) .bool, .row (3 : Go.TypeId) I64]⟩
abbrev x7 : List Way := [⟨(.ex 2), ⟨[(0, none), (3, none), (4, none), (5, none)]⟩, ⟨[.v (.ptr (.one (.list (.list I64)))), .un, .un, .row 0, .row 1, .v I64, .un, .un, .un, .un, .un, .un, .un, .un, .un, .un, .un, .un, .un, .un, .un, .un, .un, .un, .un, .un, .un, .un, .un, .un, .un, .un, .un, .un, .un], [.row (4 : Go.TypeId) .bool, .row (3 : Go.TypeId) I64]⟩⟩]
abbrev V7 : Type := ((Option (List (List Int))) × Int × Int × Unit) × ((List Bool) × (List Int) × Unit)
abbrev X7 : Type := ((Option (List (List Int))) × Int × Unit) × ((List Bool) × (List Int) × Unit)
noncomputable def R7 {R : Type} (g0 : (Option (List (List Int)))) (k5 : Int) (v6 : Int) (r0 : List Bool) (r1 : List Int) (k : V7 → Option R) (kx : X7 → Option R) : Option R := (if Decidable.decide (v6 < (↑(List.length r0) : Int)) = Bool.true then (if (0 : Int) ≤ v6 then (if v6 < (↑(List.length r0) : Int) then (if List.getD r0 (Int.toNat v6) Bool.false = Bool.true then (if (0 : Int) ≤ v6 then (if v6 < (↑(List.length r1) : Int) then (if Int.toNat v6 < List.length r1 then k ((g0, k5, IntKind.wrap .i64 (v6 + (1 : Int)), ()), (r0, List.set r1 (Int.toNat v6) k5, ()))
 else none)
 else none)
 else none)
 else k ((g0, k5, IntKind.wrap .i64 (v6 + (1 : Int)), ()), (r0, r1, ())))
 else none)
 else none)
 else kx (((g0, k5, ()), (r0, r1, ()))))
noncomputable def rd7 : Rd (VO s7) (Xs x7) := fun v k kx => match v with
  | ((g0, k5, v6, _), (r0, r1, _)) => R7 g0 k5 v6 r0 r1 k kx
noncomputable def F7 (g0 : (Option (List (List Int)))) (k5 : Int) (v6 : Int) (r0 : List Bool) (r1 : List Int) : Option X7 := finOf rd7 ((g0, k5, v6, ()), (r0, r1, ()))
theorem F7_inv {g0 : (Option (List (List Int)))} {k5 : Int} {r0 : List Bool} (I : Int → List Int → Prop) (μ : Int → List Int → Nat) (Q : X7 → Prop) (h : ∀ (v6 : Int) (r1 : List Int), I v6 r1 → Led (fun (R : Type) (k : V7 → Option R) (kx : X7 → Option R) => R7 g0 k5 v6 r0 r1 k kx) (fun v => ∃ (v6' : Int) (r1' : List Int), v = ((g0, k5, v6', ()), (r0, r1', ())) ∧ I v6' r1' ∧ μ v6' r1' < μ v6 r1) Q) : ∀ (v6 : Int) (r1 : List Int), I v6 r1 → ∃ z, F7 g0 k5 v6 r0 r1 = some z ∧ Q z := fun v6 r1 hi => by
  refine finOf_inv (V := V7) (X := X7) (rd := rd7) (fun v => ∃ (v6' : Int) (r1' : List Int), v = ((g0, k5, v6', ()), (r0, r1', ())) ∧ I v6' r1') (fun v => match v with
    | ((g0, k5, v6, _), (r0, r1, _)) => μ v6 r1) Q (fun v hv => ?_) ((g0, k5, v6, ()), (r0, r1, ())) ⟨v6, r1, rfl, hi⟩
  obtain ⟨v6, r1, rfl, hi⟩ := hv
  refine led_mono (h v6 r1 hi) ?_ (fun _ q => q)
  rintro v ⟨v6', r1', rfl, h1, h2⟩
  exact ⟨⟨v6', r1', rfl, h1⟩, h2⟩
noncomputable def L7 : Lp := ⟨7, ⟨[(0, none), (3, none), (4, none), (5, none), (6, none)]⟩, s7, x7, fun v => match v with
  | ((g0, k5, v6, _), (r0, r1, _)) => F7 g0 k5 v6 r0 r1⟩
theorem ends7 : Ends L7 rd7 := ends_fin (fun v => by
  obtain ⟨⟨g0, k5, v6, _⟩, ⟨r0, r1, _⟩⟩ := v
  rfl)
abbrev s4 : Shape := ⟨[.v (.ptr (.one (.list (.list I64)))), .un, .un, .row 0, .row 1, .v I64, .un, .un, .un, .un, .un, .un, .un, .un, .un, .un, .un, .un, .un, .un, .un, .un, .un, .un, .un, .un, .un, .un, .un, .un, .un, .un, .un, .un, .un], [.row (4 : Go.TypeId) .bool, .row (3 : Go.TypeId) I64]⟩
abbrev x4 : List Way := [⟨(.ex 0), ⟨[(4, none)]⟩, ⟨[.un, .un, .un, .un, .row 0, .un, .un, .un, .un, .un, .un, .un, .un, .un, .un, .un, .un, .un, .un, .un, .un, .un, .un, .un, .un, .un, .un, .un, .un, .un, .un, .un, .un, .un, .un], [.row (3 : Go.TypeId) I64]⟩⟩]
abbrev V4 : Type := ((Option (List (List Int))) × Int × Unit) × ((List Bool) × (List Int) × Unit)
abbrev X4 : Type := (Unit) × ((List Int) × Unit)
noncomputable def R4 {R : Type} (g0 : (Option (List (List Int)))) (k5 : Int) (r0 : List Bool) (r1 : List Int) (k : V4 → Option R) (kx : X4 → Option R) : Option R := (if shrunk6.pre g0 r0 k5 = Bool.true then (if Decidable.decide ((shrunk6.fn g0 r0 k5).2.1 > (0 : Int)) = Bool.true then (match F7 (g0) (k5) ((0 : Int)) ((shrunk6.fn g0 r0 k5).1) (r1) with
  | some (((g0_1, k5_1, _), (r0_1, r1_1, _))) => k ((g0_1, IntKind.wrap .i64 (k5_1 + (1 : Int)), ()), (r0_1, r1_1, ()))
  | none => none)
 else kx (((()), (r1, ()))))
 else none)
noncomputable def rd4 : Rd (VO s4) (Xs x4) := fun v k kx => match v with
  | ((g0, k5, _), (r0, r1, _)) => R4 g0 k5 r0 r1 k kx
noncomputable def F4 (g0 : (Option (List (List Int)))) (k5 : Int) (r0 : List Bool) (r1 : List Int) : Option X4 := finOf rd4 ((g0, k5, ()), (r0, r1, ()))
theorem F4_inv {g0 : (Option (List (List Int)))} (I : Int → List Bool → List Int → Prop) (μ : Int → List Bool → List Int → Nat) (Q : X4 → Prop) (h : ∀ (k5 : Int) (r0 : List Bool) (r1 : List Int), I k5 r0 r1 → Led (fun (R : Type) (k : V4 → Option R) (kx : X4 → Option R) => R4 g0 k5 r0 r1 k kx) (fun v => ∃ (k5' : Int) (r0' : List Bool) (r1' : List Int), v = ((g0, k5', ()), (r0', r1', ())) ∧ I k5' r0' r1' ∧ μ k5' r0' r1' < μ k5 r0 r1) Q) : ∀ (k5 : Int) (r0 : List Bool) (r1 : List Int), I k5 r0 r1 → ∃ z, F4 g0 k5 r0 r1 = some z ∧ Q z := fun k5 r0 r1 hi => by
  refine finOf_inv (V := V4) (X := X4) (rd := rd4) (fun v => ∃ (k5' : Int) (r0' : List Bool) (r1' : List Int), v = ((g0, k5', ()), (r0', r1', ())) ∧ I k5' r0' r1') (fun v => match v with
    | ((g0, k5, _), (r0, r1, _)) => μ k5 r0 r1) Q (fun v hv => ?_) ((g0, k5, ()), (r0, r1, ())) ⟨k5, r0, r1, rfl, hi⟩
  obtain ⟨k5, r0, r1, rfl, hi⟩ := hv
  refine led_mono (h k5 r0 r1 hi) ?_ (fun _ q => q)
  rintro v ⟨k5', r0', r1', rfl, h1, h2⟩
  exact ⟨⟨k5', r0', r1', rfl, h1⟩, h2⟩
noncomputable def L4 : Lp := ⟨4, ⟨[(0, none), (3, none), (4, none), (5, none)]⟩, s4, x4, fun v => match v with
  | ((g0, k5, _), (r0, r1, _)) => F4 g0 k5 r0 r1⟩
theorem ends4 : Ends L4 rd4 := ends_fin (fun v => by
  obtain ⟨⟨g0, k5, _⟩, ⟨r0, r1, _⟩⟩ := v
  rfl)
noncomputable def env : Env := mkEnv tab6 [(114, N5.sig), (133, all6.sig), (134, shrunk6.sig)] 0 [] [L7, L4]
theorem round7 : RoundIs env (sub [true, true, true, false, true, false, false, true, false, false, true, false, false] code) L7 rd7 := fun R v k kx => by kernel_rfl
theorem round4 : RoundIs env (sub [true, true, true, false, true, false, false] code) L4 rd4 := fun R v k kx => by kernel_rfl
abbrev D : Type := ((List Int) × Unit)
noncomputable def run' (g0 : (Option (List (List Int)))) : Option D := (if N5.pre g0 = Bool.true then (if all6.pre (N5.fn g0).1 = Bool.true then (if N5.pre g0 = Bool.true then (if (N5.fn g0).1 = (N5.fn g0).1 then (if (0 : Int) ≤ (N5.fn g0).1 then (if Int.toNat (N5.fn g0).1 * (8 : Nat) ≤ (140737488355328 : Nat) then (match F4 (g0) ((1 : Int)) ((all6.fn (N5.fn g0).1).1) (List.replicate (Int.toNat (N5.fn g0).1) (0 : Int)) with
  | some ((_, (r0_2, _))) => some (r0_2, ())
  | none => none)
 else none)
 else none)
 else none)
 else none)
 else none)
 else none)
noncomputable def run (d : Ds (List.map PM.ty ps)) : Option (Ds (muts ps ++ List.map PM.ty rs)) := match d with
  | (g0, _) => run' g0
theorem run_is : ∀ d, runF env 35 code [2] ps rs d = run d := fun d => by kernel_rfl
theorem loops : LoopsOk env code := loopsOk_of (l := [[true, true, true, false, true, false, false], [true, true, true, false, true, false, false, true, false, false, true, false, false]]) (by kernel_rfl) (fun p hp => by
  simp only [List.mem_cons, List.not_mem_nil, or_false] at hp
  rcases hp with rfl | rfl
  · exact loopOk_lp (L := L4) (x := sub [true, true, true, false, true, false, false] code) (by kernel_rfl) (by simp [L4]) round4 ends4
  · exact loopOk_lp (L := L7) (x := sub [true, true, true, false, true, false, false, true, false, false, true, false, false] code) (by kernel_rfl) (by simp [L7]) round7 ends7
  )
noncomputable def pre (g0 : (Option (List (List Int)))) : Bool := (run' g0).isSome
noncomputable def fn (g0 : (Option (List (List Int)))) : D := match run' g0 with
  | some x => x
  | none => default
noncomputable def sig : Sig := ⟨ps, rs, fun d => match d with
  | (g0, _) => pre g0, fun d => match d with
  | (g0, _) => fn g0, false⟩
theorem run_fn (g0 : (Option (List (List Int)))) (h : pre g0 = true) : run' g0 = some (fn g0) := by
  unfold pre at h
  unfold fn
  cases e : run' g0 with
  | some x => rfl
  | none => rw [e] at h; cases h
theorem is_fn (g0 : (Option (List (List Int)))) {x : D} (h : run' g0 = some x) : pre g0 = true ∧ fn g0 = x := by
  unfold pre fn
  rw [h]
  exact ⟨rfl, rfl⟩
theorem sound {ρ : Obs} (hE : EnvOk Go.Proofs.Try.prog ρ env) : Sound Go.Proofs.Try.prog ρ 83 sig := sound_of (fn := Go.Proofs.Try.f83) (c := code) (res := [2]) hE (by kernel_rfl) (by kernel_rfl) (by kernel_rfl) (by kernel_rfl) (by kernel_rfl) loops rfl (show 1 ≤ 35 by decide) (fun d hd => (run_is d).trans (by
  obtain ⟨g0, _⟩ := d
  exact run_fn g0 hd))
theorem enters : Enters Go.Proofs.Try.prog 83 := enters_of (fn := Go.Proofs.Try.f83) (by kernel_rfl) (by kernel_rfl) (by kernel_rfl)
theorem ok {ρ : Obs} (h : ∀ p ∈ ([(114, N5.sig), (133, all6.sig), (134, shrunk6.sig)] : List (FuncId × Sig)), Enters Go.Proofs.Try.prog p.1 ∧ Sound Go.Proofs.Try.prog ρ p.1 p.2) : Enters Go.Proofs.Try.prog 83 ∧ Sound Go.Proofs.Try.prog ρ 83 sig := ⟨enters, sound (envOk_of tab6Ok h)⟩
theorem okR : Enters Go.Proofs.Try.prog 83 ∧ Sound Go.Proofs.Try.prog rho 83 sig := ok (fun p hp => by
  simp only [List.mem_cons, List.not_mem_nil, or_false] at hp
  rcases hp with rfl | rfl | rfl
  · exact N5.okR
  · exact all6.okR
  · exact shrunk6.okR)
end Cores6
end Go.Proofs.Ythbojpaghbbnnaa.Z
namespace Go.Proofs.Ythbojpaghbbnnaa
open Go.RowKit
set_option linter.unusedVariables false
set_option linter.unusedSimpArgs false
end Go.Proofs.Ythbojpaghbbnnaa
namespace Go.Proofs.Ythbojpaghbbnnaa
open Go.RowKit
set_option linter.unusedVariables false
set_option linter.unusedSimpArgs false
structure Mny (w wr : World) (m : Nat) (xs : List Int) : Prop where
  below : Below w.heap.size w wr
  own : OI wr w.heap.size (.slice (some ⟨w.heap.size, 0, none⟩) (m + 1) (m + 1)) (bins m xs)
theorem Mny.snoc {w wr : World} {m : Nat} {xs : List Int} (h : Mny w wr m xs) {x : Int} {i : Nat} {n : Int} (hi : clampN m x = i) (hn : (bins m xs)[i]? = some n) : Mny w (wr.setCell ⟨w.heap.size, i, none⟩ (.int .i64 (n + 1))) m (xs ++ [x]) := by
  have hle := clampN_le m x
  have e1 : n = ((xs.countP (fun y => decide (clampN m y = clampN m x)) : Nat) : Int) := by
    rw [← hi, bins_get m xs _ hle] at hn
    injection hn with hn
    exact hn.symm
  refine ⟨h.below.setCell (Nat.le_refl _) _, ?_⟩
  have := h.own.set i (by rw [bins_len]; omega) (n + 1)
  rw [bins_snoc, hi, ← hi, ← e1, hi]
  exact this
end Go.Proofs.Ythbojpaghbbnnaa
namespace Go.Proofs.Ythbojpaghbbnnaa
open Go.RowKit
set_option linter.unusedVariables false
set_option linter.unusedSimpArgs false
/-- Rows of n flags: block hb holds the slices, bs are the rows' blocks, M says what they hold. -/
structure Mat (w : World) (hb : Nat) (bs : List Nat) (n : Nat) (M : Nat → Nat → Bool) : Prop where
  top : w.heap[hb]? = some (.cells (bs.map (fun b => Value.slice (some ⟨b, 0, none⟩) n n) ++ List.replicate (n - bs.length) (Value.slice none 0 0)).toArray 24 (0, 0))
  le : bs.length ≤ n
  nd : bs.Nodup
  up : ∀ b ∈ bs, hb < b
  row : ∀ (v b : Nat), bs[v]? = some b → w.heap[b]? = some (.cells ((List.range n).map (fun u => Value.bool (M v u))).toArray 4 (0, 0))
theorem own_full {w : World} {b base n : Nat} {e : TypeId} {z : Value} (h : w.ownsRow base e 1 (.slice (some ⟨b, 0, none⟩) n n) n (List.replicate n z)) : w.heap[b]? = some (.cells (List.replicate n z).toArray e (0, 0)) := by
  rcases h.2 with ⟨h', _⟩ | ⟨g, cap, cur, h', _, hh, h1, h2, h3, h4⟩
  · cases h'
  · injection h' with e1 e2 e3
    injection e1 with e1
    injection e1 with e1
    subst e1
    subst e3
    rw [hh]
    have : cur.toList = List.replicate n z := by rw [← h4, List.take_of_length_le (by simp [h3])]
    rw [← this]
theorem Mat.start {w : World} {b base n : Nat} {M : Nat → Nat → Bool} (h : w.ownsRow base 24 1 (.slice (some ⟨b, 0, none⟩) n n) n (List.replicate n (.slice none 0 0))) : Mat w b [] n M :=
  ⟨by simpa using own_full h, by simp, by simp, by simp, by simp⟩
theorem Mat.frame {w w' : World} {hb n : Nat} {bs : List Nat} {M : Nat → Nat → Bool} (h : Mat w hb bs n M) (k : ∀ b, b = hb ∨ b ∈ bs → w'.heap[b]? = w.heap[b]?) : Mat w' hb bs n M :=
  ⟨(k _ (.inl rfl)).trans h.top, h.le, h.nd, h.up, fun v b e => (k _ (.inr (List.mem_of_getElem? e))).trans (h.row v b e)⟩
theorem Mat.lt {w : World} {hb n : Nat} {bs : List Nat} {M : Nat → Nat → Bool} (h : Mat w hb bs n M) : hb < w.heap.size ∧ ∀ b ∈ bs, b < w.heap.size := by
  refine ⟨(Array.getElem?_eq_some_iff.1 h.top).1, fun b hb => ?_⟩
  obtain ⟨v, e⟩ := List.getElem?_of_mem hb
  exact (Array.getElem?_eq_some_iff.1 (h.row v b e)).1
theorem Mat.push {w w1 : World} {hb n base : Nat} {bs : List Nat} (h : Mat w hb bs n (fun _ _ => false)) (hl : bs.length < n) (hg : w.grownBy w1 none)
    (ho : w1.ownsRow base 4 1 (.slice (some ⟨w.heap.size, 0, none⟩) n n) n (List.replicate n (.bool false))) :
    Mat (w1.setCell ⟨hb, bs.length, none⟩ (.slice (some ⟨w.heap.size, 0, none⟩) n n)) hb (bs ++ [w.heap.size]) n (fun _ _ => false) := by
  have hlt := h.lt
  have ht : w1.heap[hb]? = _ := (hg.block hb hlt.1 (by simp)).trans h.top
  have hne : ∀ b, b ≠ hb → (w1.setCell ⟨hb, bs.length, none⟩ (.slice (some ⟨w.heap.size, 0, none⟩) n n)).heap[b]? = w1.heap[b]? := fun b e => Below.heap_setCell _ _ _ _ e
  refine ⟨?_, by simp; omega, ?_, ?_, ?_⟩
  · rw [set_block ht]
    congr 3
    rw [List.set_append_right _ _ (by simp)]
    obtain ⟨q, hq⟩ : ∃ q, n - bs.length = q + 1 := ⟨n - bs.length - 1, by omega⟩
    simp only [List.map_append, List.length_map, Nat.sub_self, hq, List.replicate_succ, List.set_cons_zero, List.length_append, List.length_singleton, List.map_cons, List.map_nil, List.append_assoc, List.singleton_append, show n - (bs.length + 1) = q by omega]
  · refine List.nodup_append.2 ⟨h.nd, by simp, fun a ha b hb' => ?_⟩
    have := hlt.2 a ha
    rw [List.mem_singleton.1 hb']
    omega
  · intro b hb'
    rcases List.mem_append.1 hb' with hb' | hb'
    · exact h.up b hb'
    · rw [List.mem_singleton.1 hb']; exact hlt.1
  · intro v b e
    rcases Nat.lt_or_ge v bs.length with hv | hv
    · rw [List.getElem?_append_left hv] at e
      have hm := List.mem_of_getElem? e
      have := h.up b hm
      rw [hne b (by omega), hg.block b (hlt.2 b hm) (by simp)]
      exact h.row v b e
    · rw [List.getElem?_append_right hv] at e
      have e' := List.mem_of_getElem? e
      rw [List.mem_singleton] at e'
      subst e'
      rw [hne _ (by omega), own_full ho]
      congr 3
      apply List.ext_getElem <;> simp
theorem Mat.set {w : World} {hb n v b u : Nat} {bs : List Nat} {M : Nat → Nat → Bool} (h : Mat w hb bs n M) (hv : bs[v]? = some b) (hu : u < n) :
    Mat (w.setCell ⟨b, u, none⟩ (.bool true)) hb bs n (fun a c => if a = v ∧ c = u then true else M a c) := by
  have hm := List.mem_of_getElem? hv
  have hbb := h.up b hm
  refine ⟨(Below.heap_setCell _ _ _ _ (by simp; omega)).trans h.top, h.le, h.nd, h.up, fun v' b' e => ?_⟩
  by_cases hvv : v' = v
  · subst hvv
    rw [hv] at e
    cases e
    rw [set_block (h.row v' b hv)]
    congr 3
    apply List.ext_getElem
    · simp
    · intro i h1 h2
      simp only [List.length_set, List.length_map, List.length_range] at h1
      rw [List.getElem_set]
      by_cases hi : u = i
      · subst hi; simp
      · simp [hi, Ne.symm hi]
  · have hne : b' ≠ b := by
      intro e'
      subst e'
      have h1 := (List.getElem?_eq_some_iff.1 e)
      have h2 := (List.getElem?_eq_some_iff.1 hv)
      obtain ⟨h1, h1'⟩ := h1
      obtain ⟨h2, h2'⟩ := h2
      have P := List.pairwise_iff_getElem.1 h.nd
      rcases Nat.lt_or_gt_of_ne hvv with q | q
      · exact P v' v h1 h2 q (h1'.trans h2'.symm)
      · exact P v v' h2 h1 q (h2'.trans h1'.symm)
    rw [Below.heap_setCell _ _ _ _ (by simpa using hne), h.row v' b' e]
    simp only [hvv, false_and, if_false]
end Go.Proofs.Ythbojpaghbbnnaa
