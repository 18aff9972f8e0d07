/- Package hindex: H. -/
import Derived.Test.YthbojpaghbbnnaaHA
import Derived.Test.YthbojpaghbbnnaaX
namespace Go.Proofs.Ythbojpaghbbnnaa
open Go.RowKit
set_option linter.unusedVariables false
set_option linter.unusedSimpArgs false
/-- What stands from place h on, added up. -/
def sfx (cs : List Int) (h : Nat) : Int := Hx.sum (cs.drop h)
theorem sfx_step {cs : List Int} {h : Nat} {y : Int} (hy : cs[h]? = some y) : sfx cs h = sfx cs (h + 1) + y := by
  obtain ⟨hlt, e⟩ := List.getElem?_eq_some_iff.1 hy
  unfold sfx
  rw [List.drop_eq_getElem_cons hlt, e]
  simp only [Hx.sum, List.foldr_cons]
  omega
theorem sfx_out {cs : List Int} {h : Nat} (hh : cs.length ≤ h) : sfx cs h = 0 := by
  unfold sfx
  rw [List.drop_eq_nil_of_le hh]
  rfl
def lowOf (cs : List Int) : Nat → Nat
  | 0 => 0
  | h + 1 => if sfx cs (h + 1) ≥ ((h + 1 : Nat) : Int) then h + 1 else lowOf cs h
theorem sum_bound {c : Int} : ∀ {l : List Int}, (∀ x ∈ l, 0 ≤ x ∧ x ≤ c) → 0 ≤ Hx.sum l ∧ Hx.sum l ≤ l.length * c
  | [], _ => by simp [Hx.sum]
  | a :: l, h => by
    have h1 := sum_bound (l := l) (fun x hx => h x (by simp [hx]))
    have h2 := h a (by simp)
    simp only [Hx.sum, List.foldr_cons, List.length_cons, Int.natCast_add, Int.natCast_one, Int.add_mul, Int.one_mul] at *
    omega
theorem sfx_bound {cs : List Int} {c : Int} (h : ∀ x ∈ cs, 0 ≤ x ∧ x ≤ c) (hc : 0 ≤ c) (k : Nat) : 0 ≤ sfx cs k ∧ sfx cs k ≤ cs.length * c := by
  obtain ⟨h1, h2⟩ := sum_bound (l := cs.drop k) (c := c) (fun x hx => h x (List.mem_of_mem_drop hx))
  refine ⟨h1, Int.le_trans h2 ?_⟩
  rw [List.length_drop]
  exact Int.mul_le_mul_of_nonneg_right (by omega) hc
set_option maxRecDepth 100000 in
set_option maxHeartbeats 4000000 in
theorem low_any (w : World) (cs : List Int) (hcs : cs.length = 16) (hb : ∀ x ∈ cs, 0 ≤ x ∧ x ≤ 288230376151711744) (m : Nat) (hm : m ≤ 15) :
    Calls Try.prog 127 #[.agg (cellsI cs), .int .i64 (m : Int)] w fun e w' => e = .returned (.int .i64 (lowOf cs m : Nat)) ∧ Below w.heap.size w w' := by
  have hget : ∀ k, k ≤ 15 → ∃ y, cs[k]? = some y ∧ 0 ≤ y ∧ y ≤ 288230376151711744 := fun k hk => ⟨cs[k], List.getElem?_eq_getElem (by omega), hb _ (List.getElem_mem (by omega))⟩
  have hsb : ∀ k, 0 ≤ sfx cs k ∧ sfx cs k ≤ 4611686018427387904 := fun k => by
    have := sfx_bound hb (by omega) k
    rw [hcs] at this
    omega
  have HB := Lib.hid hb
  have HG := Lib.hid hget
  have HS := Lib.hid hsb
  clear hb hget hsb
  go_enter Try.func127, Try.ntmps127
  go_wp2
  go_loopg [5, 6] 15 (fun g n s wr => ∃ k : Nat, g = k ∧ m ≤ k ∧ k ≤ 15 ∧ n = .int .i64 (sfx cs (k + 1)) ∧ s = .int .i64 (k : Int) ∧ Hid (Below w.heap.size w wr ∧ wr.heap[w.heap.size]? = some (.cells (cellsI cs) 134 (0, 0))))
  case atStart =>
    refine ⟨15, rfl, hm, Nat.le_refl _, ?_, rfl, (Below.refl _ _).alloc (Nat.le_refl _) _, heap_alloc_new _ _⟩
    rw [sfx_out (by omega)]
  case round =>
    obtain ⟨k, rfl, hmk, hk, rfl, rfl, HI⟩ := hrel
    obtain ⟨y, hy, hy0, hy1⟩ := HG.out gk hk
    have hst := sfx_step hy
    have s1 := HS.out (gk + 1)
    have s2 := HS.out gk
    have HST := Lib.hid hst
    clear hst
    by_cases hlt : m < gk
    · have c1 : wr.cell? ⟨w.heap.size, gk, none⟩ = some (.int .i64 y) := by rw [cell_of HI.out.2 gk]; simp [hy]
      clear hy
      go_wp2
      go_roundg (gk - 1)
      case measure => omega
      case rel => exact ⟨gk - 1, rfl, by omega, by omega, by rw [show gk - 1 + 1 = gk by omega, HST.out], by go_num, HI⟩
    · have hke : m = gk := by omega
      subst hke
      clear hy
      go_wp2
      clear HST s1 s2 hy0 hy1 y
      obtain ⟨wo, rfl⟩ : ∃ wo : World, wo = wr := ⟨_, rfl⟩
      go_loopg [5, 7] m (fun g n s wx => ∃ h : Nat, g = h ∧ h ≤ m ∧ n = .int .i64 (sfx cs (h + 1)) ∧ s = .int .i64 (h : Int) ∧ Hid (lowOf cs m = lowOf cs h) ∧ Hid (Below w.heap.size w wx ∧ wx.heap[w.heap.size]? = some (.cells (cellsI cs) 134 (0, 0))))
      case atStart => exact ⟨m, rfl, Nat.le_refl _, rfl, rfl, rfl, HI⟩
      case round =>
        obtain ⟨h, rfl, hh, rfl, rfl, HL, HJ⟩ := hrel
        obtain ⟨y, hy, hy0, hy1⟩ := HG.out gk (by omega)
        have hst := sfx_step hy
        have s1 := HS.out (gk + 1)
        have s2 := HS.out gk
        have HST := Lib.hid hst
        have c1 : wr.cell? ⟨w.heap.size, gk, none⟩ = some (.int .i64 y) := by rw [cell_of HJ.out.2 gk]; simp [hy]
        have hsum : sfx cs (gk + 1) + y = sfx cs gk := hst.symm
        clear hy hst
        by_cases hge : (gk : Int) ≤ sfx cs (gk + 1) + y
        · go_wp2
          go_ret
          have hlow : lowOf cs gk = gk := by
            cases gk with
            | zero => rfl
            | succ q =>
              unfold lowOf
              rw [if_pos (by omega)]
          exact ⟨by rw [HL.out, hlow]; rfl, HJ.out.1⟩
        · have hpos : 0 < gk := by omega
          go_wp2
          go_roundg (gk - 1)
          case measure => omega
          case rel =>
            refine ⟨gk - 1, rfl, by omega, by rw [show gk - 1 + 1 = gk by omega, HST.out], by go_num, ?_, HJ⟩
            have : lowOf cs gk = lowOf cs (gk - 1) := by
              obtain ⟨q, rfl⟩ : ∃ q, gk = q + 1 := ⟨gk - 1, by omega⟩
              show (if sfx cs (q + 1) ≥ ((q + 1 : Nat) : Int) then q + 1 else lowOf cs q) = lowOf cs q
              rw [if_neg (by omega)]
            exact HL.out.trans this
end Go.Proofs.Ythbojpaghbbnnaa
namespace Go.Proofs.Ythbojpaghbbnnaa
open Go.RowKit
set_option linter.unusedVariables false
set_option linter.unusedSimpArgs false
theorem count_split {α : Type} (l : List α) (f : α → Nat) (h : Nat) : l.countP (fun x => decide (h ≤ f x)) = l.countP (fun x => decide (h + 1 ≤ f x)) + l.countP (fun x => decide (f x = h)) := by
  induction l with
  | nil => rfl
  | cons x l ih =>
    simp only [List.countP_cons, ih, decide_eq_true_eq]
    by_cases h1 : h + 1 ≤ f x
    · rw [if_pos (show h ≤ f x by omega), if_pos h1, if_neg (show ¬ f x = h by omega)]
      omega
    · by_cases h2 : f x = h
      · rw [if_pos (show h ≤ f x by omega), if_neg h1, if_pos h2]
        omega
      · rw [if_neg (show ¬ h ≤ f x by omega), if_neg h1, if_neg h2]
        omega
theorem sfx_bins (M : Nat) (xs : List Int) : ∀ d h : Nat, h + d = M + 1 → sfx (bins M xs) h = ((xs.countP (fun x => decide (h ≤ clampN M x)) : Nat) : Int)
  | 0, h, e => by
    rw [sfx_out (by rw [bins_len]; omega)]
    have : xs.countP (fun x => decide (h ≤ clampN M x)) = 0 := List.countP_eq_zero.2 (fun x _ => by have := clampN_le M x; simp; omega)
    rw [this]; rfl
  | d + 1, h, e => by
    rw [sfx_step (bins_get M xs h (by omega)), sfx_bins M xs d (h + 1) (by omega), count_split xs (clampN M) h]
    omega
theorem sfx_over {M : Nat} {xs : List Int} {h : Nat} (h0 : 1 ≤ h) (h1 : h ≤ M) : sfx (bins M xs) h = Hx.over xs (h : Int) := by
  rw [sfx_bins M xs (M + 1 - h) h (by omega), Hx.over]
  congr 2
  funext x
  refine decide_eq_decide.2 ?_
  unfold clampN
  omega
theorem lowOf_is (M : Nat) (xs : List Int) : ∀ m : Nat, m ≤ M → Hx.IsH xs (m : Int) (lowOf (bins M xs) m : Nat)
  | 0, _ => ⟨Int.natCast_nonneg _, .inl rfl, Hx.over_nonneg _ _, fun h' a b _ => by omega⟩
  | m + 1, hm => by
    have ih := lowOf_is M xs m (by omega)
    have hs := sfx_over (xs := xs) (h := m + 1) (M := M) (by omega) hm
    unfold lowOf
    split
    · rename_i h
      rw [hs] at h
      exact ⟨Int.natCast_nonneg _, .inr (Int.le_refl _), h, fun _ _ b _ => b⟩
    · rename_i h
      rw [hs] at h
      refine ⟨ih.nonneg, ih.most.imp id (fun k => by omega), ih.holds, fun h' a b c => ?_⟩
      by_cases e : h' = ((m + 1 : Nat) : Int)
      · subst e; exact absurd c h
      · exact ih.best h' a (by omega) c
theorem hOf_min (xs : List Int) (most : Int) : Hx.hOf xs most = Hx.hOf xs (min most (xs.length : Int)) := by
  refine (Hx.hOf_is xs most).uniq ?_
  have h := Hx.hOf_is xs (min most (xs.length : Int))
  refine ⟨h.nonneg, h.most.imp id (fun k => by omega), h.holds, fun h' a b c => h.best h' a ?_ c⟩
  have := Hx.over_le xs h'
  omega
theorem lowOf_eq {M : Nat} {xs : List Int} {m : Nat} {most : Int} (hm : m ≤ M) (e : (m : Int) = min most (xs.length : Int)) : ((lowOf (bins M xs) m : Nat) : Int) = Hx.hOf xs most := by
  rw [hOf_min, ← e]
  exact (lowOf_is M xs m hm).uniq (Hx.hOf_is xs m)
theorem hOf_none {xs : List Int} {most : Int} (h : min most (xs.length : Int) ≤ 0) : Hx.hOf xs most = 0 := by
  rw [hOf_min]
  have k := Hx.hOf_is xs (min most (xs.length : Int))
  have := k.nonneg
  rcases k.most with e | e
  · exact e
  · omega
theorem bins_bound (m : Nat) (xs : List Int) : ∀ x ∈ bins m xs, 0 ≤ x ∧ x ≤ (xs.length : Int) := fun x hx => by
  simp only [bins, List.mem_map] at hx
  obtain ⟨k, _, rfl⟩ := hx
  have := List.countP_le_length (p := fun x => decide (clampN m x = k)) (l := xs)
  omega
structure Mny (w wr : World) (m : Nat) (xs : List Int) : Prop where
  below : Below w.heap.size w wr
  own : OI wr w.heap.size (.slice (some ⟨w.heap.size, 0, none⟩) (m + 1) (m + 1)) (bins m xs)
theorem Mny.snoc {w wr : World} {m : Nat} {xs : List Int} (h : Mny w wr m xs) {x : Int} {i : Nat} {n : Int} (hi : clampN m x = i) (hn : (bins m xs)[i]? = some n) : Mny w (wr.setCell ⟨w.heap.size, i, none⟩ (.int .i64 (n + 1))) m (xs ++ [x]) := by
  have hle := clampN_le m x
  have e1 : n = ((xs.countP (fun y => decide (clampN m y = clampN m x)) : Nat) : Int) := by
    rw [← hi, bins_get m xs _ hle] at hn
    injection hn with hn
    exact hn.symm
  refine ⟨h.below.setCell (Nat.le_refl _) _, ?_⟩
  have := h.own.set i (by rw [bins_len]; omega) (n + 1)
  rw [bins_snoc, hi, ← hi, ← e1, hi]
  exact this
theorem mny_cell {w wr : World} {m : Nat} {xs : List Int} (h : Mny w wr m xs) {i : Nat} {n : Int} (hi : i ≤ m) (hn : (bins m xs)[i]? = some n) : wr.cell? ⟨w.heap.size, i, none⟩ = some (.int .i64 n) ∧ wr.frozen? ⟨w.heap.size, i, none⟩ = false := by
  have ho : wr.ownsRow w.heap.size 3 1 (.slice (some ⟨w.heap.size, 0, none⟩) (m + 1) (m + 1)) (bins m xs).length ((bins m xs).map (Value.int .i64)) := h.own
  obtain ⟨_, q⟩ := ho
  rcases q with ⟨q, _⟩ | ⟨g, cap, cur, q, _, hh, h1, h2, h3, h4⟩
  · cases q
  · injection q with q1 q2 q3
    injection q1 with q1
    injection q1 with q1
    subst q1
    refine ⟨?_, free_of hh i⟩
    rw [cell_of hh i]
    have hlt : i < (bins m xs).length := by rw [bins_len]; omega
    have : (cur.toList.take ((bins m xs).length * 1))[i]? = some (.int .i64 n) := by rw [h4, List.getElem?_map, hn]; rfl
    rw [List.getElem?_take, if_pos (by omega)] at this
    simpa using this
set_option maxRecDepth 100000 in
set_option maxHeartbeats 8000000 in
theorem H_any (w : World) {lo hi : Nat} {v : Value} {xs : List Int} (h : Ints w lo hi v xs) (hl : xs.length ≤ 1099511627776) (most : Int) (hw : Wf most) :
    Calls Try.prog 68 #[v, .int .i64 most] w fun e w' => e = .returned (.int .i64 (Hx.hOf xs most)) ∧ Below w.heap.size w w' := by
  obtain ⟨_, A, c, rfl⟩ := h.form
  have H := Lib.hid h
  clear h
  obtain ⟨mm, hmm⟩ : ∃ mm, mm = min most (xs.length : Int) := ⟨_, rfl⟩
  by_cases h0 : mm ≤ 0
  · have hz := hOf_none (xs := xs) (most := most) (by omega)
    rw [hz]
    clear hz H
    go_enter Try.func68, Try.ntmps68
    go_wp2
    go_ret
    exact ⟨rfl, Below.refl _ _⟩
  · obtain ⟨m, rfl⟩ := Int.eq_ofNat_of_zero_le (show 0 ≤ mm by omega)
    have hOf := fun M (hM : m ≤ M) => lowOf_eq (xs := xs) (most := most) hM hmm
    have HO := Lib.hid hOf
    clear hOf
    by_cases h16 : m < 16
    · have ht := tally_any w H.out (by omega)
      have HT := Lib.hid ht
      have hlow := fun (w1 : World) => low_any w1 (bins 15 xs) (bins_len 15 xs) (fun x hx => by have := bins_bound 15 xs x hx; omega) m (by omega)
      have HLW := Lib.hid hlow
      clear ht hlow
      go_enter Try.func68, Try.ntmps68
      go_upto_region 2 with (fail)
      rw [← hmm]
      clear hmm
      go_wp2_with (first
        | (go_at_call 128; refine HT.out.mono ?_; rintro e w1 ⟨rfl, hb⟩; have HB := Lib.hid hb; clear hb)
        | (go_at_call 127; refine (HLW.out _).mono ?_; rintro e w2 ⟨rfl, hb⟩; have HB2 := Lib.hid hb; clear hb))
      go_ret
      refine ⟨?_, below_then' HB.out HB2.out⟩
      have := HO.out 15 (by omega)
      rw [← this]
      rfl
    · have hm2 : m ≤ 1099511627776 := by omega
      go_enter Try.func68, Try.ntmps68
      go_upto_region 2 with (fail)
      rw [← hmm]
      clear hmm
      go_wp2_with (at_make; refine mk_full (W := w) w.heap.size rfl (.tmp 24) (.tmp 24) 25 3 _ 8 rfl Try.underlying25 infoInt rfl (by decide) _ _ (m + 1) rfl rfl (by go_num) (by go_num) (by omega) (Nat.le_refl _) ?_; intro w1 hown hgr)
      have hM : Mny w w1 m [] := ⟨(Below.refl _ _).grown hgr (Nat.le_refl _) (by simp), by rw [bins_nil]; unfold OI Own1; simpa using hown⟩
      have HM := Lib.hid hM
      clear hown hgr hM
      go_loopg [28] xs.length (fun g s wr => ∃ k : Nat, g + k = xs.length ∧ s = .int .i64 k ∧ Hid (Mny w wr m (xs.take k)))
      case atStart => exact ⟨0, rfl, rfl, HM⟩
      case round =>
        obtain ⟨k, hk, rfl, HI⟩ := hrel
        have HK := Lib.hid hk
        clear hk
        by_cases hlt : k < xs.length
        · obtain ⟨b, off, x, rfl, _, hb, g0, HX⟩ := H.out.get k hlt
          have g1 := (HI.out.below.cell (p := ⟨b, off + k, none⟩) (Nat.lt_of_lt_of_le hb H.out.1)).trans g0
          have ht : xs.take (k + 1) = xs.take k ++ [x] := by rw [List.take_add_one, HX.out]; rfl
          have HT := Lib.hid ht
          clear ht g0
          have fin : ∀ (i : Nat) (n : Nat), clampN m x = i → (bins m (xs.take k))[i]? = some (n : Int) → Hid (Mny w (wr.setCell ⟨w.heap.size, i, none⟩ (.int .i64 ((n : Int) + 1))) m (xs.take (k + 1))) := fun i n h1 h2 => by
            rw [HT.out]
            exact HI.out.snoc h1 h2
          have FIN := Lib.hid fin
          clear fin
          have hcl : clampN m x ≤ m := clampN_le m x
          obtain ⟨n, hn, hnl⟩ := bins_at m (xs.take k) (clampN m x) hcl
          have hnl2 : n ≤ 1099511627776 := by rw [List.length_take] at hnl; omega
          obtain ⟨c1, f1⟩ := mny_cell HI.out (i := clampN m x) hcl hn
          have HN := Lib.hid hn
          clear hn hnl
          have hcd : clampN m x = (max 0 (min x (m : Int))).toNat := rfl
          rw [hcd] at c1 f1
          clear hcd
          go_wp2
          go_roundg (xs.length - (k + 1))
          case measure => have := HK.out; omega
          case rel => exact ⟨k + 1, by omega, by go_num, FIN.out (clampN m x) n rfl HN.out⟩
        · have hke : xs.take k = xs := List.take_of_length_le (by omega)
          have hI := HI.out
          rw [hke] at hI
          have HJ := Lib.hid hI
          clear hke hI
          have hbb := bins_bound m xs
          have hget : ∀ j, j ≤ m → ∃ y, (bins m xs)[j]? = some y ∧ 0 ≤ y ∧ y ≤ 1099511627776 := fun j hj => by
            have hl' : j < (bins m xs).length := by rw [bins_len]; omega
            have := hbb _ (List.getElem_mem hl')
            exact ⟨_, List.getElem?_eq_getElem hl', this.1, by omega⟩
          have hsb : ∀ j, 0 ≤ sfx (bins m xs) j ∧ sfx (bins m xs) j ≤ 1099511627776 := fun j => by
            rcases Nat.lt_or_ge j (m + 1) with q | q
            · rw [sfx_bins m xs (m + 1 - j) j (by omega)]
              have := List.countP_le_length (p := fun x => decide (j ≤ clampN m x)) (l := xs)
              omega
            · rw [sfx_out (by rw [bins_len]; omega)]
              omega
          have HG := Lib.hid hget
          have HS := Lib.hid hsb
          clear hbb hget hsb
          go_wp2
          obtain ⟨wo, rfl⟩ : ∃ wo : World, wo = wr := ⟨_, rfl⟩
          go_loopg [8, 9] m (fun g s n wx => ∃ h : Nat, g = h ∧ h ≤ m ∧ n = .int .i64 (sfx (bins m xs) (h + 1)) ∧ s = .int .i64 (h : Int) ∧ Hid (lowOf (bins m xs) m = lowOf (bins m xs) h) ∧ Hid (Mny w wx m xs))
          case atStart => exact ⟨m, rfl, Nat.le_refl _, by rw [sfx_out (by rw [bins_len]; omega)], rfl, rfl, HJ⟩
          case round =>
            obtain ⟨h, rfl, hh, rfl, rfl, HL, HJ'⟩ := hrel
            obtain ⟨y, hy, hy0, hy1⟩ := HG.out gk (by omega)
            have hst := sfx_step hy
            have s1 := HS.out (gk + 1)
            have s2 := HS.out gk
            have HST := Lib.hid hst
            have c1 := (mny_cell HJ'.out (i := gk) (by omega) hy).1
            have hsum : sfx (bins m xs) (gk + 1) + y = sfx (bins m xs) gk := hst.symm
            clear hy hst
            by_cases hge : (gk : Int) ≤ sfx (bins m xs) (gk + 1) + y
            · go_wp2
              go_ret
              have hlow : lowOf (bins m xs) gk = gk := by
                cases gk with
                | zero => rfl
                | succ q =>
                  unfold lowOf
                  rw [if_pos (by omega)]
              have hr := HO.out m (Nat.le_refl _)
              rw [HL.out, hlow] at hr
              refine ⟨?_, HJ'.out.below⟩
              rw [← hr]
              rfl
            · have hpos : 0 < gk := by omega
              go_wp2
              go_roundg (gk - 1)
              case measure => omega
              case rel =>
                refine ⟨gk - 1, rfl, by omega, by rw [show gk - 1 + 1 = gk by omega, HST.out], by go_num, ?_, HJ'⟩
                have : lowOf (bins m xs) gk = lowOf (bins m xs) (gk - 1) := by
                  obtain ⟨q, rfl⟩ : ∃ q, gk = q + 1 := ⟨gk - 1, by omega⟩
                  show (if sfx (bins m xs) (q + 1) ≥ ((q + 1 : Nat) : Int) then q + 1 else lowOf (bins m xs) q) = lowOf (bins m xs) q
                  rw [if_neg (by omega)]
                exact HL.out.trans this
end Go.Proofs.Ythbojpaghbbnnaa
